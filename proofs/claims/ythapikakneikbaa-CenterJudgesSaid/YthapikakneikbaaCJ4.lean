/-
  Lemmas and walks for this claim, part 4: PDist, GgraphConnected, GgraphEccentricity, Gselfstabref01greatest, Gselfstabref01Connected, Gselfstabref01Eccentricity, PConn, GgraphSize, GgraphTree, Gselfstabref01Size, Gselfstabref01Tree, PTree, Gshapereach, GshapeHeights, Gselfstabref27reach, Gselfstabref27Height, PHeight, ShapeBridge.
-/
import Derived.Test.YthapikakneikbaaCJ3
/-
  Plain laws on distances: sets of nodes that are reached link by link, and what the printed functions compute of them.
-/
namespace Go.Proofs.YthapikakneikbaaG
open Go.RowKit Go.Proofs.YthapikakneikbaaW.PrintWords
open Go.Proofs.Ythapikakneikbaa (bitsOf bitsOf_lt bitsOf_small testBit_bitsOf bitsOf_congr bitsOf_zero aroundB)
/-! ### lists by their places -/
def outL {α : Type} (n : Nat) (f : Nat → α) : List α := (List.range n).map f
theorem outL_len {α : Type} (n : Nat) (f : Nat → α) : (outL n f).length = n := by simp [outL]
theorem outL_get {α : Type} {n : Nat} {f : Nat → α} {v : Nat} (h : v < n) : (outL n f)[v]? = some (f v) := by simp [outL, h]
theorem outL_ext {α : Type} {n : Nat} {f g : Nat → α} (h : ∀ v, v < n → f v = g v) : outL n f = outL n g := List.map_congr_left fun v hv => h v (List.mem_range.1 hv)
theorem outL_rd {n : Nat} {f : Nat → Int} {v : Nat} (h : v < n) : rd (outL n f) (v : Int) = f v := by
  rw [rd_getD, List.getD_eq_getElem?_getD, outL_get h]
  rfl
theorem outL_set {α : Type} {n : Nat} {f : Nat → α} {v : Nat} (x : α) : (outL n f).set v x = outL n (fun u => if u = v then x else f u) := by
  apply List.ext_getElem?
  intro i
  rw [List.getElem?_set]
  by_cases hi : i < n
  · rw [outL_get hi, outL_get hi]
    by_cases e : v = i
    · subst e
      simp [outL_len, hi]
    · have e' : i ≠ v := fun h => e h.symm
      simp [e, e']
  · have h1 : (outL n f)[i]? = none := by simp [outL]; omega
    have h2 : (outL n (fun u => if u = v then x else f u))[i]? = none := by simp [outL]; omega
    rw [h1, h2, outL_len]
    split <;> simp_all
theorem outL_succ {α : Type} (n : Nat) (f : Nat → α) : outL (n + 1) f = outL n f ++ [f n] := by simp [outL, List.range_succ]
theorem outL_const {α : Type} (n : Nat) (x : α) : List.replicate n x = outL n (fun _ => x) := by
  simp [outL]
  induction n with
  | zero => rfl
  | succ n ih => rw [List.replicate_succ', ih, List.range_succ, List.map_append]; rfl
/-! ### the sets -/
def adjP (p : List (List S60)) (v u : Nat) : Bool := (p.getD v []).any fun l => decide (l.f0 = (u : Int))
/-- At distance d (front), and below (reached). -/
def FR (p : List (List S60)) (a : Nat) : Nat → (Nat → Bool) × (Nat → Bool)
  | 0 => (fun v => decide (v = a), fun _ => false)
  | d + 1 => (fun v => ((List.range p.length).any fun u => (FR p a d).1 u && adjP p u v) && !((FR p a d).2 v || (FR p a d).1 v), fun v => (FR p a d).2 v || (FR p a d).1 v)
abbrev Fr (p : List (List S60)) (a d v : Nat) : Bool := (FR p a d).1 v
abbrev Rc (p : List (List S60)) (a d v : Nat) : Bool := (FR p a d).2 v
def nx (p : List (List S60)) (a d v w : Nat) : Bool := (List.range v).any fun u => Fr p a d u && adjP p u w
theorem Fr_succ (p : List (List S60)) (a d v : Nat) : Fr p a (d + 1) v = (nx p a d p.length v && !(Rc p a d v || Fr p a d v)) := rfl
theorem Rc_succ (p : List (List S60)) (a d v : Nat) : Rc p a (d + 1) v = (Rc p a d v || Fr p a d v) := rfl
theorem nx_succ (p : List (List S60)) (a d v w : Nat) : nx p a d (v + 1) w = (nx p a d v w || (Fr p a d v && adjP p v w)) := by
  unfold nx
  rw [List.range_succ, List.any_append]
  simp
/-- The distance, as far as it is below d. -/
def distTo (p : List (List S60)) (a : Nat) : Nat → Nat → Int
  | 0, _ => -1
  | d + 1, v => if Fr p a d v then (d : Int) else distTo p a d v
section
variable {p : List (List S60)} {a : Nat}
theorem Fr_not_Rc {d v : Nat} (h : Fr p a d v = true) : Rc p a d v = false := by
  cases d with
  | zero => rfl
  | succ d =>
    rw [Fr_succ, Bool.and_eq_true] at h
    rw [Rc_succ]
    simpa using h.2
theorem Rc_iff {d v : Nat} : Rc p a d v = true ↔ ∃ e, e < d ∧ Fr p a e v = true := by
  induction d with
  | zero => exact ⟨(fun h => by cases h), fun ⟨e, he, _⟩ => absurd he (Nat.not_lt_zero _)⟩
  | succ d ih =>
    rw [Rc_succ, Bool.or_eq_true, ih]
    constructor
    · rintro (⟨e, he, h⟩ | h)
      · exact ⟨e, by omega, h⟩
      · exact ⟨d, by omega, h⟩
    · rintro ⟨e, he, h⟩
      by_cases hd : e = d
      · exact .inr (hd ▸ h)
      · exact .inl ⟨e, by omega, h⟩
theorem Fr_one {d e v : Nat} (h : Fr p a d v = true) (k : Fr p a e v = true) : d = e := by
  rcases Nat.lt_trichotomy d e with hl | hl | hl
  · have := Fr_not_Rc k
    rw [Rc_iff.2 ⟨d, hl, h⟩] at this
    cases this
  · exact hl
  · have := Fr_not_Rc h
    rw [Rc_iff.2 ⟨e, hl, k⟩] at this
    cases this
theorem distTo_cases (d v : Nat) : (distTo p a d v = -1 ∧ Rc p a d v = false) ∨ ∃ e, e < d ∧ Fr p a e v = true ∧ distTo p a d v = (e : Int) := by
  induction d with
  | zero => exact .inl ⟨rfl, rfl⟩
  | succ d ih =>
    unfold distTo
    by_cases h : Fr p a d v = true
    · rw [if_pos h]; exact .inr ⟨d, by omega, h, rfl⟩
    · rw [if_neg h]
      rcases ih with ⟨h1, h2⟩ | ⟨e, he, h1, h2⟩
      · refine .inl ⟨h1, ?_⟩
        rw [Rc_succ, h2]
        simpa using h
      · exact .inr ⟨e, by omega, h1, h2⟩
theorem distTo_of {d e v : Nat} (he : e < d) (h : Fr p a e v = true) : distTo p a d v = (e : Int) := by
  rcases distTo_cases (p := p) (a := a) d v with ⟨_, h2⟩ | ⟨e', _, h1, h2⟩
  · rw [Rc_iff.2 ⟨e, he, h⟩] at h2; cases h2
  · rw [h2, Fr_one h h1]
theorem distTo_neg {d v : Nat} : distTo p a d v < 0 ↔ Rc p a d v = false := by
  rcases distTo_cases (p := p) (a := a) d v with ⟨h1, h2⟩ | ⟨e, he, h1, h2⟩
  · rw [h1, h2]; exact ⟨(fun _ => rfl), (fun _ => by decide)⟩
  · rw [h2, Rc_iff.2 ⟨e, he, h1⟩]
    exact ⟨(fun h => by omega), (fun h => by cases h)⟩
theorem distTo_eq {d e v : Nat} (he : e < d) : distTo p a d v = (e : Int) ↔ Fr p a e v = true := by
  constructor
  · intro h
    rcases distTo_cases (p := p) (a := a) d v with ⟨h1, h2⟩ | ⟨e', he', h1, h2⟩
    · omega
    · have : e' = e := by omega
      exact this ▸ h1
  · exact distTo_of he
/-- Where a front is empty, nothing follows. -/
theorem Fr_stop {d : Nat} (h : ∀ v, v < p.length → Fr p a d v = false) : ∀ e, d ≤ e → ∀ v, v < p.length → Fr p a e v = false := by
  intro e he
  induction e with
  | zero => obtain rfl : d = 0 := by omega
            exact h
  | succ e ih =>
    by_cases hd : d = e + 1
    · exact hd ▸ h
    · intro v hv
      rw [Fr_succ]
      have hn : nx p a e p.length v = false := by
        unfold nx
        rw [List.any_eq_false]
        intro u hu
        rw [ih (by omega) u (List.mem_range.1 hu)]
        simp
      rw [hn, Bool.false_and]
theorem countP_or {l : List Nat} {f g : Nat → Bool} (h : ∀ v, f v = true → g v = false) : l.countP (fun v => f v || g v) = l.countP f + l.countP g := by
  induction l with
  | nil => rfl
  | cons x r ih =>
    simp only [List.countP_cons, ih]
    cases hf : f x with
    | true => rw [h x hf]; simp; omega
    | false => cases g x <;> simp <;> omega
/-- From n on, the fronts are empty. -/
theorem Fr_end {v : Nat} (hv : v < p.length) : Fr p a p.length v = false := by
  by_cases hex : ∃ d, d < p.length ∧ ∀ v, v < p.length → Fr p a d v = false
  · obtain ⟨d, hd, h⟩ := hex
    exact Fr_stop h _ (by omega) v hv
  · have hne : ∀ d, d < p.length → ∃ v, v < p.length ∧ Fr p a d v = true := fun d hd => by
      rcases Classical.em (∃ v, v < p.length ∧ Fr p a d v = true) with h | h
      · exact h
      · exact absurd ⟨d, hd, fun v hv => by
          cases hf : Fr p a d v with
          | false => rfl
          | true => exact absurd ⟨v, hv, hf⟩ h⟩ hex
    have hc : ∀ d, d ≤ p.length → d ≤ (List.range p.length).countP (fun v => Rc p a d v) := fun d => by
      induction d with
      | zero => intro _; exact Nat.zero_le _
      | succ d ih =>
        intro hd
        have h1 := ih (by omega)
        obtain ⟨u, hu, hfu⟩ := hne d (by omega)
        have h2 : (List.range p.length).countP (fun v => Rc p a (d + 1) v) = (List.range p.length).countP (fun v => Rc p a d v) + (List.range p.length).countP (fun v => Fr p a d v) := by
          have : (fun v => Rc p a (d + 1) v) = fun v => Rc p a d v || Fr p a d v := funext fun v => Rc_succ p a d v
          rw [this]
          exact countP_or fun v hr => by
            cases hf : Fr p a d v with
            | false => rfl
            | true => rw [Fr_not_Rc hf] at hr; cases hr
        have h3 : 0 < (List.range p.length).countP (fun v => Fr p a d v) := List.countP_pos_iff.2 ⟨u, List.mem_range.2 hu, hfu⟩
        omega
    have h1 := hc p.length (Nat.le_refl _)
    have h2 : (List.range p.length).countP (fun v => Rc p a p.length v) = (List.range p.length).length := by
      have := List.countP_le_length (p := fun v => Rc p a p.length v) (l := List.range p.length)
      rw [List.length_range] at this ⊢
      omega
    rw [List.countP_eq_length] at h2
    have h3 := h2 v (List.mem_range.2 hv)
    cases hf : Fr p a p.length v with
    | false => rfl
    | true => rw [Fr_not_Rc hf] at h3; cases h3
theorem Fr_late {d v : Nat} (hd : p.length ≤ d) (hv : v < p.length) : Fr p a d v = false := Fr_stop (fun _ h => Fr_end h) d hd v hv
theorem distTo_stop {d e v : Nat} (hv : v < p.length) (h : ∀ u, u < p.length → Fr p a d u = false) (he : d ≤ e) : distTo p a e v = distTo p a d v := by
  induction e with
  | zero => obtain rfl : d = 0 := by omega
            rfl
  | succ e ih =>
    by_cases hd : d = e + 1
    · rw [hd]
    · rw [distTo, if_neg (by rw [Fr_stop h e (by omega) v hv]; simp), ih (by omega)]
end
/-- The distances from node a. -/
def distL (p : List (List S60)) (a : Nat) : List Int := outL p.length (distTo p a p.length)
theorem distL_len (p : List (List S60)) (a : Nat) : (distL p a).length = p.length := outL_len _ _
/-! ### the service's loops -/
theorem adj_toG (ids : List Int) (p : List (List S60)) (v u : Nat) : Go.Proofs.Ythapikakneikbaa.adj (toG ids p) v u = adjP p v u := by
  unfold Go.Proofs.Ythapikakneikbaa.adj adjP
  rw [toG_row, List.any_map]
  rfl
theorem around_f {ids : List Int} {p : List (List S60)} (hv : (toG ids p).valid = true) {v : Nat} (h : v < p.length) : graph_around.f ids p (v : Int) = some ((bitsOf (adjP p v) p.length : Nat) : Int) := by
  unfold graph_around.f
  rw [if_pos ⟨hv, by omega, by omega⟩, Int.toNat_natCast]
  unfold aroundB
  rw [toG_len, bitsOf_congr fun u _ => adj_toG ids p v u]
theorem or_bits {f g : Nat → Bool} {n : Nat} (h : n ≤ 32) : Go.bits .or .u32 ((bitsOf f n : Nat) : Int) ((bitsOf g n : Nat) : Int) = ((bitsOf (fun v => f v || g v) n : Nat) : Int) := by
  rw [u32_or_nat _ _ (bitsOf_small h) (bitsOf_small h), Go.Proofs.Ythapikakneikbaa.or_bitsOf]
theorem not_bit {m i : Nat} (hm : m < 4294967296) : (4294967295 - m).testBit i = (decide (i < 32) && !m.testBit i) := by
  have : 4294967295 - m = 2 ^ 32 - (m + 1) := by omega
  rw [this, Nat.testBit_two_pow_sub_succ hm]
theorem andNot_bits {f g : Nat → Bool} {n : Nat} (h : n ≤ 32) : Go.bits .andNot .u32 ((bitsOf f n : Nat) : Int) ((bitsOf g n : Nat) : Int) = ((bitsOf (fun v => f v && !g v) n : Nat) : Int) := by
  rw [u32_andNot_nat _ _ (bitsOf_small h) (bitsOf_small h)]
  congr 1
  refine Nat.eq_of_testBit_eq fun v => ?_
  rw [Nat.testBit_and, not_bit (bitsOf_small h), testBit_bitsOf, testBit_bitsOf, testBit_bitsOf]
  by_cases hv : v < n
  · have : v < 32 := by omega
    simp [hv, this]
  · simp [hv]
theorem bit_of {f : Nat → Bool} {n v : Nat} (h : n ≤ 32) (hv : v < n) : Go.bits .and .u32 (shr .u32 ((bitsOf f n : Nat) : Int) (v : Int)) 1 = if f v then 1 else 0 := by
  rw [get_bit (bitsOf_small h) (by omega), testBit_bitsOf]
  simp [hv]
section
variable {ids : List Int} {p : List (List S60)} {a : Nat}
/-- In the midst of a layer: the nodes below v have been looked at. -/
def midL (p : List (List S60)) (a d v : Nat) : List Int := outL p.length fun u => if u < v then distTo p a (d + 1) u else distTo p a d u
theorem midL_zero (p : List (List S60)) (a d : Nat) : midL p a d 0 = outL p.length (distTo p a d) := outL_ext fun u _ => by simp
theorem midL_end (p : List (List S60)) (a d : Nat) : midL p a d p.length = outL p.length (distTo p a (d + 1)) := outL_ext fun u hu => by rw [if_pos hu]
theorem midL_yes {d v : Nat} (h : Fr p a d v = true) : (midL p a d v).set v (d : Int) = midL p a d (v + 1) := by
  unfold midL
  rw [outL_set]
  refine outL_ext fun u _ => ?_
  by_cases e : u = v
  · subst e
    rw [if_pos rfl, if_pos (by omega), distTo, if_pos h]
  · rw [if_neg e]
    by_cases hl : u < v
    · rw [if_pos hl, if_pos (by omega)]
    · rw [if_neg hl, if_neg (by omega)]
theorem midL_no {d v : Nat} (h : Fr p a d v = false) : midL p a d v = midL p a d (v + 1) := by
  refine outL_ext fun u _ => ?_
  by_cases e : u = v
  · subst e
    rw [if_neg (by omega), if_pos (by omega), distTo, if_neg (by simp [h])]
  · by_cases hl : u < v
    · rw [if_pos hl, if_pos (by omega)]
    · rw [if_neg hl, if_neg (by omega)]
theorem dist_l2 (hv : (toG ids p).valid = true) (r : List Int) (d : Nat) (hd : d ≤ p.length)
    (hnext : Ev (fun k => graph_Distances.l1 k (outL p.length (distTo p a (d + 1))) ((bitsOf (Rc p a (d + 1)) p.length : Nat) : Int) ((d + 1 : Nat) : Int) ((bitsOf (Fr p a (d + 1)) p.length : Nat) : Int) ids p) r) :
    ∀ m v, m + v = p.length → Ev (fun k => graph_Distances.l2 k (midL p a d v) ((bitsOf (Rc p a (d + 1)) p.length : Nat) : Int) (d : Int) ((bitsOf (Fr p a d) p.length : Nat) : Int) ((bitsOf (nx p a d v) p.length : Nat) : Int) (p.length : Int) (v : Int) ids p) r := by
  obtain ⟨s1, s2, _⟩ := valid_size hv
  intro m
  induction m with
  | zero =>
    intro v hm
    obtain rfl : v = p.length := by omega
    refine Ev.step (fun k => ?_) hnext
    rw [graph_Distances.l2, if_neg (by omega), midL_end, andNot_bits (by omega), wrap_id (by omega) (by omega)]
    have e : bitsOf (fun v => nx p a d p.length v && !Rc p a (d + 1) v) p.length = bitsOf (Fr p a (d + 1)) p.length := bitsOf_congr fun v _ => by rw [Fr_succ, Rc_succ]
    rw [e]
    rfl
  | succ m ih =>
    intro v hm
    have h := ih (v + 1) (by omega)
    have hl : (midL p a d v).length = p.length := outL_len _ _
    refine Ev.step (fun k => ?_) h
    rw [graph_Distances.l2, if_pos (by omega), if_pos (by omega), bit_of (by omega) (by omega), wrap_id (by omega) (by omega)]
    cases hf : Fr p a d v with
    | true =>
      rw [if_pos (by simp), if_pos (by rw [hl]; omega), around_f hv (by omega), Option.bind_some, Int.toNat_natCast, midL_yes hf, or_bits (by omega)]
      have e : bitsOf (fun w => nx p a d v w || adjP p v w) p.length = bitsOf (nx p a d (v + 1)) p.length := bitsOf_congr fun w _ => by rw [nx_succ, hf, Bool.true_and]
      rw [e]
      rfl
    | false =>
      rw [if_neg (by simp), midL_no hf]
      have e : bitsOf (nx p a d v) p.length = bitsOf (nx p a d (v + 1)) p.length := bitsOf_congr fun w _ => by rw [nx_succ, hf, Bool.false_and, Bool.or_false]
      rw [e]
      rfl
theorem dist_l1 (hv : (toG ids p).valid = true) : ∀ m d, m + d = p.length →
    Ev (fun k => graph_Distances.l1 k (outL p.length (distTo p a d)) ((bitsOf (Rc p a d) p.length : Nat) : Int) (d : Int) ((bitsOf (Fr p a d) p.length : Nat) : Int) ids p) (distL p a) := by
  obtain ⟨s1, s2, _⟩ := valid_size hv
  have stop : ∀ d, d ≤ p.length → bitsOf (Fr p a d) p.length = 0 → Ev (fun k => graph_Distances.l1 k (outL p.length (distTo p a d)) ((bitsOf (Rc p a d) p.length : Nat) : Int) (d : Int) ((bitsOf (Fr p a d) p.length : Nat) : Int) ids p) (distL p a) := fun d hd h0 => by
    refine Ev.step (f := fun _ => some (distL p a)) (fun k => ?_) Ev.some
    rw [graph_Distances.l1, if_pos (by rw [h0]; rfl)]
    congr 1
    exact outL_ext fun v hv => (distTo_stop hv (bitsOf_zero.1 h0) hd).symm
  intro m
  induction m with
  | zero =>
    intro d hm
    exact stop d (by omega) (bitsOf_zero.2 fun v hv => Fr_late (by omega) hv)
  | succ m ih =>
    intro d hm
    by_cases h0 : bitsOf (Fr p a d) p.length = 0
    · exact stop d (by omega) h0
    · have h := dist_l2 (a := a) hv (distL p a) d (by omega) (ih (d + 1) (by omega)) p.length 0 (by omega)
      refine Ev.step (fun k => ?_) h
      rw [graph_Distances.l1, if_neg (by omega), or_bits (by omega), midL_zero, outL_len]
      have e : bitsOf (nx p a d 0) p.length = 0 := bitsOf_zero.2 fun w _ => rfl
      rw [e]
      rfl
theorem dist_l0 (hv : (toG ids p).valid = true) (ha : a < p.length) : ∀ m v, m + v = p.length →
    Ev (fun k => graph_Distances.l0 k (a : Int) (outL p.length fun u => if u < v then -1 else 0) (p.length : Int) (v : Int) ids p) (distL p a) := by
  obtain ⟨s1, s2, _⟩ := valid_size hv
  intro m
  induction m with
  | zero =>
    intro v hm
    obtain rfl : v = p.length := by omega
    refine Ev.step (fun k => ?_) (dist_l1 (a := a) hv p.length 0 (by omega))
    rw [graph_Distances.l0, if_neg (by omega), if_pos (by omega), shl_bit (by omega)]
    have e1 : (outL p.length fun u => if u < p.length then (-1 : Int) else 0) = outL p.length (distTo p a 0) := outL_ext fun u hu => by rw [if_pos hu]; rfl
    have e2 : bitsOf (Rc p a 0) p.length = 0 := bitsOf_zero.2 fun w _ => rfl
    have e3 : bitsOf (Fr p a 0) p.length = 2 ^ a := by
      refine Nat.eq_of_testBit_eq fun i => ?_
      rw [testBit_bitsOf, Nat.testBit_two_pow]
      show (decide (i < p.length) && decide (i = a)) = _
      by_cases e : i = a
      · subst e; simp [ha]
      · simp [e, Ne.symm e]
    rw [e1, e2, e3]
    rfl
  | succ m ih =>
    intro v hm
    refine Ev.step (fun k => ?_) (ih (v + 1) (by omega))
    rw [graph_Distances.l0, if_pos (by omega), if_pos (by omega), if_pos (by rw [outL_len]; omega), wrap_id (by omega) (by omega), Int.toNat_natCast, outL_set]
    have e : (outL p.length fun u => if u = v then (-1 : Int) else if u < v then -1 else 0) = outL p.length fun u => if u < v + 1 then (-1 : Int) else 0 := outL_ext fun u _ => by
      by_cases h1 : u = v
      · rw [if_pos h1, if_pos (by omega)]
      · rw [if_neg h1]
        by_cases h2 : u < v
        · rw [if_pos h2, if_pos (by omega)]
        · rw [if_neg h2, if_neg (by omega)]
    rw [e]
    rfl
/-- What Distances returns. -/
def distS (ids : List Int) (p : List (List S60)) (a : Int) : List Int := if (toG ids p).valid = true ∧ 0 ≤ a ∧ a < p.length then distL p a.toNat else []
theorem distS_yes (hv : (toG ids p).valid = true) (h : a < p.length) : distS ids p (a : Int) = distL p a := by
  unfold distS
  rw [if_pos ⟨hv, by omega, by omega⟩, Int.toNat_natCast]
theorem distS_no {a : Int} (h : ¬ ((toG ids p).valid = true ∧ 0 ≤ a ∧ a < p.length)) : distS ids p a = [] := if_neg h
/-- graph.Distances. -/
theorem dist_ev (ids : List Int) (p : List (List S60)) (a : Int) : Ev (fun k => graph_Distances.f k ids p a) (distS ids p a) := by
  unfold graph_Distances.f graph_node.f graph_Valid.f
  by_cases h0 : 0 ≤ a
  · by_cases h1 : a < (p.length : Int)
    · cases hv : (toG ids p).valid with
      | false =>
        rw [distS_no (by rw [hv]; simp)]
        refine Ev.congr (f := fun _ => some []) (fun k => ?_) Ev.some
        rw [if_pos h0, if_pos h1]
        rfl
      | true =>
        obtain ⟨a, rfl⟩ := Int.eq_ofNat_of_zero_le h0
        obtain ⟨s1, s2, _⟩ := valid_size hv
        rw [distS_yes hv (by omega)]
        refine Ev.congr (fun k => ?_) (dist_l0 (a := a) hv (by omega) p.length 0 (by omega))
        rw [if_pos h0, if_pos h1, Option.bind_some, Option.bind_some, if_pos rfl, if_pos (by omega), if_pos (by rw [Int.toNat_natCast]; omega), Option.bind_some, Int.toNat_natCast, outL_const, outL_len]
        have e : (outL p.length fun _ => (0 : Int)) = outL p.length fun u => if u < 0 then -1 else 0 := outL_ext fun u _ => by rw [if_neg (by omega)]
        rw [e]
        rfl
    · rw [distS_no (fun h => h1 h.2.2)]
      refine Ev.congr (f := fun _ => some []) (fun k => ?_) Ev.some
      rw [if_pos h0, if_neg h1]
      rfl
  · rw [distS_no (fun h => h0 h.2.1)]
    refine Ev.congr (f := fun _ => some []) (fun k => ?_) Ev.some
    rw [if_neg h0]
    rfl
/-! ### the reference's loops -/
theorem adj_sym (hv : (toG ids p).valid = true) {v u : Nat} (h1 : v < p.length) (h2 : u < p.length) (h : adjP p v u = true) : adjP p u v = true := by
  unfold adjP at h ⊢
  rw [List.getD_eq_getElem?_getD, List.getElem?_eq_getElem h1] at h
  rw [List.getD_eq_getElem?_getD, List.getElem?_eq_getElem h2]
  rw [List.any_eq_true] at h ⊢
  obtain ⟨l, hl, e⟩ := h
  obtain ⟨l', hl', e'⟩ := valid_back hv h1 h2 ⟨l, hl, of_decide_eq_true e⟩
  exact ⟨l', hl', decide_eq_true e'⟩
/-- A node is at distance d + 1, as it is seen from the node. -/
theorem Fr_back (hv : (toG ids p).valid = true) {d v : Nat} (h : v < p.length) : Fr p a (d + 1) v = (!Rc p a (d + 1) v && (p[v]).any fun l => Fr p a d l.f0.toNat) := by
  rw [Fr_succ, Rc_succ, Bool.and_comm]
  congr 1
  rw [Bool.eq_iff_iff]
  unfold nx
  rw [List.any_eq_true, List.any_eq_true]
  constructor
  · rintro ⟨u, hu, hx⟩
    rw [Bool.and_eq_true] at hx
    have := adj_sym hv (List.mem_range.1 hu) h hx.2
    unfold adjP at this
    rw [List.getD_eq_getElem?_getD, List.getElem?_eq_getElem h, List.any_eq_true] at this
    obtain ⟨l, hl, e⟩ := this
    have e := of_decide_eq_true e
    exact ⟨l, hl, by rw [e]; exact hx.1⟩
  · rintro ⟨l, hl, hx⟩
    obtain ⟨g1, g2, _⟩ := valid_to hv h hl
    refine ⟨l.f0.toNat, List.mem_range.2 (by omega), ?_⟩
    rw [Bool.and_eq_true]
    refine ⟨hx, adj_sym hv h (by omega) ?_⟩
    unfold adjP
    rw [List.getD_eq_getElem?_getD, List.getElem?_eq_getElem h, List.any_eq_true]
    exact ⟨l, hl, decide_eq_true (by omega)⟩
theorem midL_at {d v u : Nat} (hu : u < p.length) : rd (midL p a d v) (u : Int) = if u < v then distTo p a (d + 1) u else distTo p a d u := outL_rd hu
/-- The value d - 1 stands where the front d - 1 is, before and after. -/
theorem mid_old {d v u : Nat} (hu : u < p.length) : rd (midL p a (d + 1) v) (u : Int) = (d : Int) ↔ Fr p a d u = true := by
  rw [midL_at hu]
  split
  · exact distTo_eq (by omega)
  · exact distTo_eq (by omega)
theorem rdist_l3 (hv : (toG ids p).valid = true) (r : List Int) (d v : Nat) (hd : d < p.length) (hvl : v < p.length)
    (hnext : Ev (fun k => selfstabref01_Distances.l2 k (p.length : Int) (midL p a (d + 1) (v + 1)) ((d + 1 : Nat) : Int) ((v + 1 : Nat) : Int) ids p) r) :
    ∀ m i, m + i = p[v].length → Rc p a (d + 1) v = false → ((p[v].take i).any fun l => Fr p a d l.f0.toNat) = false →
      Ev (fun k => selfstabref01_Distances.l3 k (p.length : Int) (midL p a (d + 1) v) ((d + 1 : Nat) : Int) (v : Int) (i : Int) ids p) r := by
  obtain ⟨s1, s2, _⟩ := valid_size hv
  have hrow : rd_L2 p (v : Int) = p[v] := by rw [rdPorts_nat, List.getD_eq_getElem?_getD, List.getElem?_eq_getElem hvl]; rfl
  have hll : ∀ w, (midL p a (d + 1) w).length = p.length := fun w => outL_len _ _
  intro m
  induction m with
  | zero =>
    intro i hm hrc hno
    obtain rfl : i = p[v].length := by omega
    rw [List.take_length] at hno
    have hf : Fr p a (d + 1) v = false := by rw [Fr_back hv hvl, hno, Bool.and_false]
    rw [← midL_no hf] at hnext
    refine Ev.step (f := fun k => selfstabref01_Distances.j5 k (p.length : Int) (midL p a (d + 1) v) ((d + 1 : Nat) : Int) (v : Int) (p[v].length : Int) false ids p) (fun k => ?_) (Ev.step (fun k => ?_) hnext)
    · rw [selfstabref01_Distances.l3, if_pos (by omega), if_pos (by omega), hrow, if_neg (by omega)]
    · rw [selfstabref01_Distances.j5, if_neg (by simp), wrap_id (by omega) (by omega)]
      rfl
  | succ m ih =>
    intro i hm hrc hno
    have hil : i < p[v].length := by omega
    have hlink : rd_T60 p[v] (i : Int) = p[v][i] := rdLink_nat hil
    obtain ⟨g1, g2, _⟩ := valid_to hv hvl (List.getElem_mem hil)
    have hrd : rd (midL p a (d + 1) v) (v : Int) < 0 := by rw [midL_at hvl, if_neg (by omega)]; exact distTo_neg.2 hrc
    obtain ⟨t, ht⟩ := Int.eq_ofNat_of_zero_le g1
    have c0 : (0 : Int) ≤ (v : Int) := by omega
    have cv : (v : Int) < (p.length : Int) := by omega
    have ci : (i : Int) < (p[v].length : Int) := by omega
    have ci0 : (0 : Int) ≤ (i : Int) := by omega
    have cl : ∀ w, (v : Int) < ((midL p a (d + 1) w).length : Int) := fun w => by rw [hll]; omega
    have ct0 : (0 : Int) ≤ (t : Int) := by omega
    have ct : (t : Int) < ((midL p a (d + 1) v).length : Int) := by rw [hll]; omega
    have ctp : t < p.length := by omega
    have cw : wrap64 (((d + 1 : Nat) : Int) - 1) = (d : Int) := by rw [wrap_id (by omega) (by omega)]; omega
    have hwrap : wrap64 ((i : Int) + 1) = ((i + 1 : Nat) : Int) := by
      have := row_small hv hvl
      rw [wrap_id (by omega) (by omega)]
      rfl
    refine Ev.step (f := fun k => selfstabref01_Distances.j5 k (p.length : Int) (midL p a (d + 1) v) ((d + 1 : Nat) : Int) (v : Int) (i : Int) true ids p) (fun k => ?_) ?_
    · rw [selfstabref01_Distances.l3, if_pos c0, if_pos cv, hrow, if_pos ci, if_pos (cl v), decide_eq_true hrd]
    · cases hf : Fr p a d t with
      | true =>
        have hF : Fr p a (d + 1) v = true := by
          rw [Fr_back hv hvl, hrc, Bool.not_false, Bool.true_and, List.any_eq_true]
          exact ⟨p[v][i], List.getElem_mem hil, by rw [ht, Int.toNat_natCast]; exact hf⟩
        refine Ev.step (f := fun k => selfstabref01_Distances.l3 k (p.length : Int) (midL p a (d + 1) (v + 1)) ((d + 1 : Nat) : Int) (v : Int) ((i + 1 : Nat) : Int) ids p) (fun k => ?_) ?_
        · rw [selfstabref01_Distances.j5, if_pos rfl, if_pos c0, if_pos cv, if_pos ci0, hrow, if_pos ci, hlink, ht, if_pos ct0, if_pos ct, cw, if_pos ((mid_old ctp).2 hf), if_pos (cl v), Int.toNat_natCast, midL_yes hF, hwrap]
        · have hn2 : ¬ rd (midL p a (d + 1) (v + 1)) (v : Int) < 0 := by rw [midL_at hvl, if_pos (by omega), distTo, if_pos hF]; omega
          refine Ev.step (f := fun k => selfstabref01_Distances.j5 k (p.length : Int) (midL p a (d + 1) (v + 1)) ((d + 1 : Nat) : Int) (v : Int) ((i + 1 : Nat) : Int) false ids p) (fun k => ?_) (Ev.step (fun k => ?_) hnext)
          · rw [selfstabref01_Distances.l3, if_pos c0, if_pos cv, hrow]
            by_cases hlast : ((i + 1 : Nat) : Int) < (p[v].length : Int)
            · rw [if_pos hlast, if_pos (cl (v + 1)), decide_eq_false hn2]
            · rw [if_neg hlast]
          · rw [selfstabref01_Distances.j5, if_neg (by simp), wrap_id (by omega) (by omega)]
            rfl
      | false =>
        refine Ev.step (fun k => ?_) (ih (i + 1) (by omega) hrc ?_)
        · have hne : ¬ rd (midL p a (d + 1) v) (t : Int) = (d : Int) := fun h => by
            rw [(mid_old ctp).1 h] at hf
            cases hf
          rw [selfstabref01_Distances.j5, if_pos rfl, if_pos c0, if_pos cv, if_pos ci0, hrow, if_pos ci, hlink, ht, if_pos ct0, if_pos ct, cw, if_neg hne, hwrap]
        · rw [List.take_succ_eq_append_getElem hil, List.any_append, hno, Bool.false_or]
          simp only [List.any_cons, List.any_nil, Bool.or_false]
          rw [ht, Int.toNat_natCast]
          exact hf
theorem rdist_l2 (hv : (toG ids p).valid = true) (r : List Int) (d : Nat) (hd : d < p.length)
    (hnext : Ev (fun k => selfstabref01_Distances.l1 k (p.length : Int) (outL p.length (distTo p a (d + 2))) ((d + 2 : Nat) : Int) ids p) r) :
    ∀ m v, m + v = p.length → Ev (fun k => selfstabref01_Distances.l2 k (p.length : Int) (midL p a (d + 1) v) ((d + 1 : Nat) : Int) (v : Int) ids p) r := by
  obtain ⟨s1, s2, _⟩ := valid_size hv
  intro m
  induction m with
  | zero =>
    intro v hm
    obtain rfl : v = p.length := by omega
    refine Ev.step (fun k => ?_) hnext
    rw [selfstabref01_Distances.l2, if_neg (by omega), midL_end, wrap_id (by omega) (by omega)]
    rfl
  | succ m ih =>
    intro v hm
    have h := ih (v + 1) (by omega)
    have hvl : v < p.length := by omega
    have hrow : rd_L2 p (v : Int) = p[v] := by rw [rdPorts_nat, List.getD_eq_getElem?_getD, List.getElem?_eq_getElem hvl]; rfl
    have hll : (midL p a (d + 1) v).length = p.length := outL_len _ _
    refine Ev.step (fun k => by rw [selfstabref01_Distances.l2, if_pos (by omega)]) ?_
    cases hrc : Rc p a (d + 1) v with
    | false => exact rdist_l3 hv r d v hd hvl h p[v].length 0 (by omega) hrc (by simp)
    | true =>
      have hf : Fr p a (d + 1) v = false := by
        cases hf : Fr p a (d + 1) v with
        | false => rfl
        | true => rw [Fr_not_Rc hf] at hrc; cases hrc
      rw [← midL_no hf] at h
      have hn2 : ¬ rd (midL p a (d + 1) v) (v : Int) < 0 := by
        rw [midL_at hvl, if_neg (by omega), distTo_neg, hrc]; simp
      refine Ev.step (f := fun k => selfstabref01_Distances.j5 k (p.length : Int) (midL p a (d + 1) v) ((d + 1 : Nat) : Int) (v : Int) 0 false ids p) (fun k => ?_) (Ev.step (fun k => ?_) h)
      · rw [selfstabref01_Distances.l3, if_pos (by omega), if_pos (by omega), hrow]
        by_cases hlast : (0 : Int) < (p[v].length : Int)
        · rw [if_pos hlast, if_pos (by rw [hll]; omega), decide_eq_false hn2]
        · rw [if_neg hlast]
      · rw [selfstabref01_Distances.j5, if_neg (by simp), wrap_id (by omega) (by omega)]
        rfl
theorem rdist_l1 (hv : (toG ids p).valid = true) : ∀ m d, m + (d + 1) = p.length →
    Ev (fun k => selfstabref01_Distances.l1 k (p.length : Int) (outL p.length (distTo p a (d + 1))) ((d + 1 : Nat) : Int) ids p) (distL p a) := by
  obtain ⟨s1, s2, _⟩ := valid_size hv
  intro m
  induction m with
  | zero =>
    intro d hm
    refine Ev.step (f := fun _ => some (distL p a)) (fun k => ?_) Ev.some
    rw [selfstabref01_Distances.l1, if_neg (by omega)]
    unfold distL
    rw [show d + 1 = p.length from by omega]
  | succ m ih =>
    intro d hm
    refine Ev.step (fun k => ?_) (rdist_l2 (a := a) hv (distL p a) d (by omega) (ih (d + 1) (by omega)) p.length 0 (by omega))
    rw [selfstabref01_Distances.l1, if_pos (by omega), midL_zero]
    rfl
theorem rdist_l0 (hv : (toG ids p).valid = true) (ha : a < p.length) : ∀ m v, m + v = p.length →
    Ev (fun k => selfstabref01_Distances.l0 k (a : Int) (p.length : Int) (outL v fun _ => -1) (v : Int) ids p) (distL p a) := by
  obtain ⟨s1, s2, _⟩ := valid_size hv
  intro m
  induction m with
  | zero =>
    intro v hm
    obtain rfl : v = p.length := by omega
    refine Ev.step (fun k => ?_) (rdist_l1 (a := a) hv (p.length - 1) 0 (by omega))
    rw [selfstabref01_Distances.l0, if_neg (by omega), if_pos (by omega), if_pos (by rw [outL_len]; omega), Int.toNat_natCast, outL_set]
    have e1 : (outL p.length fun u => if u = a then (0 : Int) else -1) = outL p.length (distTo p a (0 + 1)) := outL_ext fun u _ => by
      show _ = if decide (u = a) = true then ((0 : Nat) : Int) else -1
      by_cases e : u = a <;> simp [e]
    rw [e1]
    rfl
  | succ m ih =>
    intro v hm
    refine Ev.step (fun k => ?_) (ih (v + 1) (by omega))
    rw [selfstabref01_Distances.l0, if_pos (by omega), if_pos (by rw [outL_len]; omega), wrap_id (by omega) (by omega), ← outL_succ]
    rfl
/-- selfstabref01.Distances. -/
theorem rdist_ev (ids : List Int) (p : List (List S60)) (a : Int) : Ev (fun k => selfstabref01_Distances.f k ids p a) (distS ids p a) := by
  unfold selfstabref01_Distances.f selfstabref01_Valid.f
  have none_ : ∀ b : Bool, b = true → Ev (fun k => selfstabref01_Distances.j0 k a b ids p) [] := fun b hb => by
    subst hb
    exact Ev.step (f := fun _ => some []) (fun k => by rw [selfstabref01_Distances.j0, if_pos rfl]) Ev.some
  cases hv : (toG ids p).valid with
  | false =>
    rw [distS_no (by rw [hv]; simp)]
    exact Ev.congr (fun k => by rw [Option.bind_some, if_neg (by simp)]) (none_ true rfl)
  | true =>
    obtain ⟨s1, s2, _⟩ := valid_size hv
    by_cases hin : 0 ≤ a ∧ a < p.length
    · obtain ⟨a, rfl⟩ := Int.eq_ofNat_of_zero_le hin.1
      rw [distS_yes hv (by omega)]
      have hin_f : selfstabref01_In.f (a : Int) 0 (wrap64 ((p.length : Int) - 1)) = some true := by
        rw [wrap_id (by omega) (by omega)]
        unfold selfstabref01_In.f
        rw [if_pos (by omega)]
        congr 1
        exact decide_eq_true (by omega)
      refine Ev.congr (fun k => by rw [Option.bind_some, if_pos rfl, hin_f, Option.bind_some]) (Ev.step (fun k => ?_) (rdist_l0 (a := a) hv (by omega) p.length 0 (by omega)))
      rw [selfstabref01_Distances.j0, if_neg (by simp)]
      rfl
    · rw [distS_no (fun h => hin h.2)]
      have hin_f : selfstabref01_In.f a 0 (wrap64 ((p.length : Int) - 1)) = some false := by
        rw [wrap_id (by omega) (by omega)]
        unfold selfstabref01_In.f
        by_cases h0 : a ≥ 0
        · rw [if_pos h0]
          congr 1
          exact decide_eq_false (by omega)
        · rw [if_neg h0]
      exact Ev.congr (fun k => by rw [Option.bind_some, if_pos rfl, hin_f, Option.bind_some]) (none_ (!false) rfl)
end
end Go.Proofs.YthapikakneikbaaG
namespace Go.Proofs.YthapikakneikbaaG
open Go.RowKit Go.Proofs.YthapikakneikbaaW.PrintWords Go.Proofs.YthapikakneikbaaW.PrintLast Go.Proofs.YthapikakneikbaaW.PrintMore
attribute [local go_sem] max2_int min2_int max_two min_two max_three min_three max_four min_four   -- for this text's walks alone
set_option linter.unusedVariables false
set_option linter.unusedSimpArgs false
def graph_Connected.l0 : Nat → List Int → List Int → Int → Int → Option (Bool)
 | 0, _, _, _, _ => none
 | k + 1, x3, x8, x9, x10 => if x10 < x9 then (if 0 ≤ x10 then (if x10 < (x8.length : Int) then (if (rd x8 x10) < 0 then (some false) else (graph_Connected.l0 k x3 x8 x9 (wrap64 (x10 + 1)))) else (none)) else (none)) else (some (decide ((x3.length : Int) > 0)))
def graph_Connected.f (k : Nat) (l0_0 : List Int) (l0_1 : List (List (S60))) : Option (Bool) := (graph_Distances.f k l0_0 l0_1 0).bind fun t443 => (graph_Connected.l0 k t443 t443 (t443.length : Int) 0)
theorem graph_Connected.mono_l : ∀ k, (∀ y0 y1 y2 y3, LeO (graph_Connected.l0 k y0 y1 y2 y3) (graph_Connected.l0 (k + 1) y0 y1 y2 y3))
 | 0 => fun _ _ _ _ r h => by simp [graph_Connected.l0] at h
 | k + 1 => by
  have ih0 := graph_Connected.mono_l k
  ·
   intro y0 y1 y2 y3
   unfold graph_Connected.l0
   repeat' first
   | (with_reducible exact ih0 _ _ _ _)
   | (with_reducible exact graph_Distances.mono _ _ _ _)
   | (with_reducible exact LeO.refl _)
   | (with_reducible exact LeO.none _)
   | (with_reducible refine LeO.ite ?_ ?_)
   | (with_reducible refine LeO.bind ?_ (fun _ => ?_))
   | exact ih0 _ _ _ _
   | exact graph_Distances.mono _ _ _ _
   | exact LeO.none _
   | refine LeO.ite ?_ ?_
   | refine LeO.bind ?_ (fun _ => ?_)
theorem graph_Connected.mono : ∀ a0 a1 k, LeO (graph_Connected.f k a0 a1) (graph_Connected.f (k + 1) a0 a1) := by
 intro a0 a1 k
 have ih0 := graph_Connected.mono_l k
 unfold graph_Connected.f
 repeat' first
   | (with_reducible exact ih0 _ _ _ _)
   | (with_reducible exact graph_Distances.mono _ _ _ _)
   | (with_reducible exact LeO.refl _)
   | (with_reducible exact LeO.none _)
   | (with_reducible refine LeO.ite ?_ ?_)
   | (with_reducible refine LeO.bind ?_ (fun _ => ?_))
   | exact ih0 _ _ _ _
   | exact graph_Distances.mono _ _ _ _
   | exact LeO.none _
   | refine LeO.ite ?_ ?_
   | refine LeO.bind ?_ (fun _ => ?_)
set_option maxHeartbeats 8000000 in
set_option maxRecDepth 100000 in
theorem graph_Connected.calls (k : Nat) (A0_0 : Option Addr) (c0_0 : Nat) (l0_0 : List Int) (A0_1 : Option Addr) (c0_1 : Nat) (l0_1 : List (List (S60))) (r : Bool) (w : World) (hr0_0 : Kd.C (Kd.int .i64) w A0_0 l0_0.length l0_0) (hc0_0 : l0_0.length ≤ c0_0) (hr0_1 : Kd.C (Kd.slice 60 k60) w A0_1 l0_1.length l0_1) (hc0_1 : l0_1.length ≤ c0_1) (h : graph_Connected.f k l0_0 l0_1 = some r) :
  Calls Try.prog 87 #[.agg #[.slice A0_0 l0_0.length c0_0, .slice A0_1 l0_1.length c0_1]] w fun e w' => e = .returned (.bool r) ∧ Below w.heap.size w w' := by
 have hu27 := Try.underlying27
 have HR0_0 := Aside0.mk hr0_0
 have HC0_0 := Aside0.mk hc0_0
 clear hr0_0 hc0_0
 have HR0_1 := Aside0.mk hr0_1
 have HC0_1 := Aside0.mk hc0_1
 clear hr0_1 hc0_1
 have HB := Aside0.mk (Below.refl w.heap.size w)
 have H : ((graph_Distances.f k l0_0 l0_1 0).bind fun t443 => (graph_Connected.l0 k t443 t443 (t443.length : Int) 0)) = some r := h
 clear h
 replace H := Option.bind_eq_some_iff.mp H
 obtain ⟨t443, A20, H⟩ := H
 replace H : (graph_Connected.l0 k t443 t443 (t443.length : Int) 0) = some r := H
 have A2 := Aside0.mk A20
 clear A20
 have H' := Aside0.mk H
 clear H
 go_enter Try.func87, Try.ntmps87
 go_wp2_with (first | ((with_reducible refine gate_dst (N := 1) rfl ?_); refine box_event ?hg (N := 1) ?hd (cs := #[.slice A0_0 l0_0.length c0_0, .slice A0_1 l0_1.length c0_1]) (t := 27) ?hr ?_; (case hd => rfl); (case hg => rfl); (case hr => first | (go_simp; done) | (go_simp; rfl)); intro gb442 hg w3 hbox hb; have n0_ := Aside0.mk (below_step (by repeat (first | (with_reducible first | exact HB.out | apply below_alloc | apply pw_below_drewN | apply below_drew1) | exact HB.out)) hb); have n1_ := Aside0.mk (hbox); have n2_ := Aside0.mk ((by rw [hg]; exact (below_size (by repeat (first | (with_reducible first | exact HB.out | apply below_alloc | apply pw_below_drewN | apply below_drew1) | exact HB.out))) : w.heap.size ≤ gb442)); have n3_ := Aside0.mk ((by rw [hg]; exact (below_size (by repeat (first | (with_reducible first | exact HB.out | apply below_alloc | apply pw_below_drewN | apply below_drew1) | exact HB.out))) : w.heap.size ≤ gb442)); clear HB; have HB := n0_; have BK442 := n1_; have GW442 := n2_; have GE442 := n3_; clear n0_ n1_ n2_ n3_; clear hb hbox hg; have hcz4_0 : w3.cell? ⟨gb442, 0, none⟩ = some (.slice A0_0 l0_0.length c0_0) := (blk_cell BK442.out 0).trans rfl; have hcz4_1 : w3.cell? ⟨gb442, 1, none⟩ = some (.slice A0_1 l0_1.length c0_1) := (blk_cell BK442.out 1).trans rfl; have hfz4_0 := blk_frozen BK442.out 0; have hfz4_1 := blk_frozen BK442.out 1) | ((with_reducible refine gate_callee (f := 90) rfl ?_); refine goesL_ (some 7) rfl rfl Try.func90 (by kernel_rfl) rfl #[.agg #[.slice A0_0 l0_0.length c0_0, .slice A0_1 l0_1.length c0_1], .int .i64 0] rfl (by (try simp only [List.map_toArray, List.map_cons, List.map_nil]); first | done | rfl | (simp only [List.length_drop, List.length_take]; rfl)) ?_; (with_reducible refine (graph_Distances.calls k _ _ l0_0 _ _ l0_1 0 t443 _ ?side1 ?side2 ?side3 ?side4 A2.out).mono ?_); (case side1 => repeat (first | exact (Kd.C_below HR0_0.out HB.out) | (with_reducible refine Kd.C_alloc ?_ _) | (with_reducible refine Kd.C_drewN ?_ _) | (with_reducible refine Kd.C_drew ?_))); (case side2 => exact HC0_0.out); (case side3 => repeat (first | exact (Kd.C_below HR0_1.out HB.out) | (with_reducible refine Kd.C_alloc ?_ _) | (with_reducible refine Kd.C_drewN ?_ _) | (with_reducible refine Kd.C_drew ?_))); (case side4 => exact HC0_1.out); rintro e w5 ⟨v444, rfl, ho0, hb⟩; refine ⟨_, rfl, ?_⟩; have n0_ := Aside0.mk (Kd.R_lower ho0 (below_size (by repeat (first | (with_reducible first | exact HB.out | apply below_alloc | apply pw_below_drewN | apply below_drew1 | refine below_set ?_ GE442.out) | exact HB.out)))); have n1_ := Aside0.mk (blk_below (g := gb442) (o := .cells #[.slice A0_0 l0_0.length c0_0, .slice A0_1 l0_1.length c0_1] 27 (0, 0)) (by (with_reducible repeat (first | refine blk_drewN ?_ _ | refine blk_drew ?_ | refine blk_alloc ?_ _)); exact BK442.out) hb); have n2_ := Aside0.mk (below_step (by repeat (first | (with_reducible first | exact HB.out | apply below_alloc | apply pw_below_drewN | apply below_drew1 | refine below_set ?_ GE442.out) | exact HB.out)) hb); clear BK442; clear HB; have HO445 := n0_; have BK442 := n1_; have HB := n2_; clear n0_ n1_ n2_; (try clear hb); (try clear hb2); (try clear hk); (try clear hi); (try clear ho0); obtain ⟨Ao6, co6, eo6⟩ := Kd.R_slice HO445.out; subst eo6))
 go_loopg [10] k (fun kq v10 w' => ∃ (x10_1 : Int), v10 = .int .i64 x10_1 ∧ Aside0 (graph_Connected.l0 kq t443 t443 (t443.length : Int) x10_1 = some r) ∧ Aside0 (kq ≤ k) ∧ Aside0 (Kd.R (Kd.int .i64) 3 w' w.heap.size (fun _ => True) (.slice Ao6 t443.length co6) t443) ∧ Aside0 (Kd.R (Kd.int .i64) 3 w' w.heap.size (fun _ => True) (.slice Ao6 t443.length co6) t443) ∧ Aside0 (w'.heap[gb442]? = some (.cells #[(.slice A0_0 l0_0.length c0_0), (.slice A0_1 l0_1.length c0_1)] 27 (0, 0))) ∧ Aside0 (Below w.heap.size w w'))
 case atStart => exact ⟨(0), (by first | rfl | (simp; done) | (simp [*]; done)), H', ⟨Nat.le_refl _⟩, ⟨by (with_reducible repeat (first | apply Kd.R_alloc | apply Kd.R_drewN | apply Kd.R_drew)); exact HO445.out⟩, ⟨by (with_reducible repeat (first | apply Kd.R_alloc | apply Kd.R_drewN | apply Kd.R_drew)); exact HO445.out⟩, ⟨by (with_reducible repeat (first | refine blk_drewN ?_ _ | refine blk_drew ?_ | refine blk_alloc ?_ _)); exact BK442.out⟩, ⟨by repeat (first | (with_reducible first | exact HB.out | apply below_alloc | apply pw_below_drewN | apply below_drew1 | refine below_set ?_ GE442.out) | exact HB.out)⟩⟩
 case round =>
  clear H'
  try clear p2
  try clear hcz4_0
  try clear hcz4_1
  try clear hfz4_0
  try clear hfz4_1
  obtain ⟨x10_1, rfl, HA, HK1, HO_3, HO_8, BK442, HB⟩ := hrel
  cases gk with
  | zero => exact absurd HA.out (by simp [graph_Connected.l0])
  | succ k1 =>
   have H := HA.out
   clear HA
   simp only [graph_Connected.l0] at H
   by_cases c7 : x10_1 < (t443.length : Int)
   ·
    rw [if_pos c7] at H
    have c7b0 : decide (x10_1 < (t443.length : Int)) = true := decide_eq_true c7
    clear c7
    by_cases c8 : 0 ≤ x10_1
    ·
     rw [if_pos c8] at H
     have c8b0 : decide (0 ≤ x10_1) = true := decide_eq_true c8
     clear c8
     by_cases c9 : x10_1 < (t443.length : Int)
     ·
      rw [if_pos c9] at H
      have c9b0 : decide (x10_1 < (t443.length : Int)) = true := decide_eq_true c9
      clear c9
      by_cases c10 : (rd t443 x10_1) < 0
      ·
       rw [if_pos c10] at H
       have c10b0 : decide ((rd t443 x10_1) < 0) = true := decide_eq_true c10
       clear c10
       obtain rfl := Option.some.inj H
       have p446 : 0 ≤ (x10_1 : Int) := of_decide_eq_true (by first | (with_reducible assumption) | assumption)
       have q446 : x10_1 < (t443.length : Int) := of_decide_eq_true (by first | (with_reducible assumption) | assumption)
       obtain ⟨ad446, e446, hx446_0⟩ := Kd.at_int (Kd.R_reads' HO_8.out).2.2 x10_1 p446 q446
       cases e446
       replace p446 := eq_true p446
       replace q446 := eq_true q446
       go_wp2
       go_ret
       exact ⟨by first | rfl | (simp [errW_none, errW_some] <;> rfl) | (simp [*, errW_none, errW_some] <;> rfl), by repeat (first | (with_reducible first | exact HB.out | apply below_alloc | apply pw_below_drewN | apply below_drew1 | refine below_set ?_ GE442.out) | exact HB.out)⟩
      ·
       rw [if_neg c10] at H
       have c10b0 : decide ((rd t443 x10_1) < 0) = false := decide_eq_false c10
       clear c10
       have H' := Aside0.mk H
       clear H
       have p446 : 0 ≤ (x10_1 : Int) := of_decide_eq_true (by first | (with_reducible assumption) | assumption)
       have q446 : x10_1 < (t443.length : Int) := of_decide_eq_true (by first | (with_reducible assumption) | assumption)
       obtain ⟨ad446, e446, hx446_0⟩ := Kd.at_int (Kd.R_reads' HO_8.out).2.2 x10_1 p446 q446
       cases e446
       replace p446 := eq_true p446
       replace q446 := eq_true q446
       go_wp2
       go_roundg k1
       case measure => have := HK1.out; omega
       case rel => exact ⟨(wrap64 (x10_1 + 1)), (by first | rfl | (simp; done) | (simp [*]; done)), H', ⟨by have := HK1.out; omega⟩, ⟨by (with_reducible repeat (first | apply Kd.R_alloc | apply Kd.R_drewN | apply Kd.R_drew)); exact HO_3.out⟩, ⟨by (with_reducible repeat (first | apply Kd.R_alloc | apply Kd.R_drewN | apply Kd.R_drew)); exact HO_8.out⟩, ⟨by (with_reducible repeat (first | refine blk_drewN ?_ _ | refine blk_drew ?_ | refine blk_alloc ?_ _)); exact BK442.out⟩, ⟨by repeat (first | (with_reducible first | exact HB.out | apply below_alloc | apply pw_below_drewN | apply below_drew1 | refine below_set ?_ GE442.out) | exact HB.out)⟩⟩
     ·
      rw [if_neg c9] at H
      exact absurd H (by simp)
    ·
     rw [if_neg c8] at H
     exact absurd H (by simp)
   ·
    rw [if_neg c7] at H
    have c7b0 : decide (x10_1 < (t443.length : Int)) = false := decide_eq_false c7
    clear c7
    obtain rfl := Option.some.inj H
    go_wp2
    go_ret
    exact ⟨by first | rfl | (simp [errW_none, errW_some] <;> rfl) | (simp [*, errW_none, errW_some] <;> rfl), by repeat (first | (with_reducible first | exact HB.out | apply below_alloc | apply pw_below_drewN | apply below_drew1 | refine below_set ?_ GE442.out) | exact HB.out)⟩
end Go.Proofs.YthapikakneikbaaG
namespace Go.Proofs.YthapikakneikbaaG
open Go.RowKit Go.Proofs.YthapikakneikbaaW.PrintWords Go.Proofs.YthapikakneikbaaW.PrintLast Go.Proofs.YthapikakneikbaaW.PrintMore
attribute [local go_sem] max2_int min2_int max_two min_two max_three min_three max_four min_four   -- for this text's walks alone
set_option linter.unusedVariables false
set_option linter.unusedSimpArgs false
def graph_Eccentricity.l0 : Nat → Int → List Int → Int → Int → Option (Int)
 | 0, _, _, _, _ => none
 | k + 1, x5, x13, x14, x15 => if x15 < x14 then (if 0 ≤ x15 then (if x15 < (x13.length : Int) then (graph_Eccentricity.l0 k (mx x5 (rd x13 x15)) x13 x14 (wrap64 (x15 + 1))) else (none)) else (none)) else (some x5)
def graph_Eccentricity.f (k : Nat) (l0_0 : List Int) (l0_1 : List (List (S60))) (a1 : Int) : Option (Int) := (graph_Connected.f k l0_0 l0_1).bind fun t472 => (if t472 = true then ((graph_Distances.f k l0_0 l0_1 a1).bind fun t473 => (graph_Eccentricity.l0 k (-1) t473 (t473.length : Int) 0)) else (some (-1)))
theorem graph_Eccentricity.mono_l : ∀ k, (∀ y0 y1 y2 y3, LeO (graph_Eccentricity.l0 k y0 y1 y2 y3) (graph_Eccentricity.l0 (k + 1) y0 y1 y2 y3))
 | 0 => fun _ _ _ _ r h => by simp [graph_Eccentricity.l0] at h
 | k + 1 => by
  have ih0 := graph_Eccentricity.mono_l k
  ·
   intro y0 y1 y2 y3
   unfold graph_Eccentricity.l0
   repeat' first
   | (with_reducible exact ih0 _ _ _ _)
   | (with_reducible exact graph_Connected.mono _ _ _)
   | (with_reducible exact graph_Distances.mono _ _ _ _)
   | (with_reducible exact LeO.refl _)
   | (with_reducible exact LeO.none _)
   | (with_reducible refine LeO.ite ?_ ?_)
   | (with_reducible refine LeO.bind ?_ (fun _ => ?_))
   | exact ih0 _ _ _ _
   | exact graph_Connected.mono _ _ _
   | exact graph_Distances.mono _ _ _ _
   | exact LeO.none _
   | refine LeO.ite ?_ ?_
   | refine LeO.bind ?_ (fun _ => ?_)
theorem graph_Eccentricity.mono : ∀ a0 a1 a2 k, LeO (graph_Eccentricity.f k a0 a1 a2) (graph_Eccentricity.f (k + 1) a0 a1 a2) := by
 intro a0 a1 a2 k
 have ih0 := graph_Eccentricity.mono_l k
 unfold graph_Eccentricity.f
 repeat' first
   | (with_reducible exact ih0 _ _ _ _)
   | (with_reducible exact graph_Connected.mono _ _ _)
   | (with_reducible exact graph_Distances.mono _ _ _ _)
   | (with_reducible exact LeO.refl _)
   | (with_reducible exact LeO.none _)
   | (with_reducible refine LeO.ite ?_ ?_)
   | (with_reducible refine LeO.bind ?_ (fun _ => ?_))
   | exact ih0 _ _ _ _
   | exact graph_Connected.mono _ _ _
   | exact graph_Distances.mono _ _ _ _
   | exact LeO.none _
   | refine LeO.ite ?_ ?_
   | refine LeO.bind ?_ (fun _ => ?_)
set_option maxHeartbeats 8000000 in
set_option maxRecDepth 100000 in
theorem graph_Eccentricity.calls (k : Nat) (A0_0 : Option Addr) (c0_0 : Nat) (l0_0 : List Int) (A0_1 : Option Addr) (c0_1 : Nat) (l0_1 : List (List (S60))) (a1 : Int) (r : Int) (w : World) (hr0_0 : Kd.C (Kd.int .i64) w A0_0 l0_0.length l0_0) (hc0_0 : l0_0.length ≤ c0_0) (hr0_1 : Kd.C (Kd.slice 60 k60) w A0_1 l0_1.length l0_1) (hc0_1 : l0_1.length ≤ c0_1) (h : graph_Eccentricity.f k l0_0 l0_1 a1 = some r) :
  Calls Try.prog 94 #[.agg #[.slice A0_0 l0_0.length c0_0, .slice A0_1 l0_1.length c0_1], .int .i64 a1] w fun e w' => e = .returned (.int .i64 r) ∧ Below w.heap.size w w' := by
 have hu27 := Try.underlying27
 have HR0_0 := Aside0.mk hr0_0
 have HC0_0 := Aside0.mk hc0_0
 clear hr0_0 hc0_0
 have HR0_1 := Aside0.mk hr0_1
 have HC0_1 := Aside0.mk hc0_1
 clear hr0_1 hc0_1
 have HB := Aside0.mk (Below.refl w.heap.size w)
 have H : ((graph_Connected.f k l0_0 l0_1).bind fun t472 => (if t472 = true then ((graph_Distances.f k l0_0 l0_1 a1).bind fun t473 => (graph_Eccentricity.l0 k (-1) t473 (t473.length : Int) 0)) else (some (-1)))) = some r := h
 clear h
 replace H := Option.bind_eq_some_iff.mp H
 obtain ⟨t472, A30, H⟩ := H
 replace H : (if t472 = true then ((graph_Distances.f k l0_0 l0_1 a1).bind fun t473 => (graph_Eccentricity.l0 k (-1) t473 (t473.length : Int) 0)) else (some (-1))) = some r := H
 have A3 := Aside0.mk A30
 clear A30
 by_cases c4 : t472 = true
 ·
  subst c4
  have H1 : ((graph_Distances.f k l0_0 l0_1 a1).bind fun t473 => (graph_Eccentricity.l0 k (-1) t473 (t473.length : Int) 0)) = some r := by rw [if_pos rfl] at H; exact H
  clear H
  have H := H1
  clear H1
  replace H := Option.bind_eq_some_iff.mp H
  obtain ⟨t473, A50, H⟩ := H
  replace H : (graph_Eccentricity.l0 k (-1) t473 (t473.length : Int) 0) = some r := H
  have A5 := Aside0.mk A50
  clear A50
  have H' := Aside0.mk H
  clear H
  go_enter Try.func94, Try.ntmps94
  go_wp2_with (first | ((with_reducible refine gate_dst (N := 2) rfl ?_); refine box_event ?hg (N := 2) ?hd (cs := #[.slice A0_0 l0_0.length c0_0, .slice A0_1 l0_1.length c0_1]) (t := 27) ?hr ?_; (case hd => rfl); (case hg => rfl); (case hr => first | (go_simp; done) | (go_simp; rfl)); intro gb471 hg w6 hbox hb; have n0_ := Aside0.mk (below_step (by repeat (first | (with_reducible first | exact HB.out | apply below_alloc | apply pw_below_drewN | apply below_drew1) | exact HB.out)) hb); have n1_ := Aside0.mk (hbox); have n2_ := Aside0.mk ((by rw [hg]; exact (below_size (by repeat (first | (with_reducible first | exact HB.out | apply below_alloc | apply pw_below_drewN | apply below_drew1) | exact HB.out))) : w.heap.size ≤ gb471)); have n3_ := Aside0.mk ((by rw [hg]; exact (below_size (by repeat (first | (with_reducible first | exact HB.out | apply below_alloc | apply pw_below_drewN | apply below_drew1) | exact HB.out))) : w.heap.size ≤ gb471)); clear HB; have HB := n0_; have BK471 := n1_; have GW471 := n2_; have GE471 := n3_; clear n0_ n1_ n2_ n3_; clear hb hbox hg; have hcz7_0 : w6.cell? ⟨gb471, 0, none⟩ = some (.slice A0_0 l0_0.length c0_0) := (blk_cell BK471.out 0).trans rfl; have hcz7_1 : w6.cell? ⟨gb471, 1, none⟩ = some (.slice A0_1 l0_1.length c0_1) := (blk_cell BK471.out 1).trans rfl; have hfz7_0 := blk_frozen BK471.out 0; have hfz7_1 := blk_frozen BK471.out 1) | ((with_reducible refine gate_callee (f := 87) rfl ?_); refine goesL_ (some 9) rfl rfl Try.func87 (by kernel_rfl) rfl #[.agg #[.slice A0_0 l0_0.length c0_0, .slice A0_1 l0_1.length c0_1]] rfl (by (try simp only [List.map_toArray, List.map_cons, List.map_nil]); first | done | rfl | (simp only [List.length_drop, List.length_take]; rfl)) ?_; (with_reducible refine (graph_Connected.calls k _ _ l0_0 _ _ l0_1 true _ ?side1 ?side2 ?side3 ?side4 A3.out).mono ?_); (case side1 => repeat (first | exact (Kd.C_below HR0_0.out HB.out) | (with_reducible refine Kd.C_alloc ?_ _) | (with_reducible refine Kd.C_drewN ?_ _) | (with_reducible refine Kd.C_drew ?_))); (case side2 => exact HC0_0.out); (case side3 => repeat (first | exact (Kd.C_below HR0_1.out HB.out) | (with_reducible refine Kd.C_alloc ?_ _) | (with_reducible refine Kd.C_drewN ?_ _) | (with_reducible refine Kd.C_drew ?_))); (case side4 => exact HC0_1.out); rintro e w8 ⟨rfl, hb⟩; refine ⟨_, rfl, ?_⟩; have n0_ := Aside0.mk (blk_below (g := gb471) (o := .cells #[.slice A0_0 l0_0.length c0_0, .slice A0_1 l0_1.length c0_1] 27 (0, 0)) (by (with_reducible repeat (first | refine blk_drewN ?_ _ | refine blk_drew ?_ | refine blk_alloc ?_ _)); exact BK471.out) hb); have n1_ := Aside0.mk (below_step (by repeat (first | (with_reducible first | exact HB.out | apply below_alloc | apply pw_below_drewN | apply below_drew1 | refine below_set ?_ GE471.out) | exact HB.out)) hb); clear BK471; clear HB; have BK471 := n0_; have HB := n1_; clear n0_ n1_; (try clear hb); (try clear hb2); (try clear hk); (try clear hi); have hcz9_0 : w8.cell? ⟨gb471, 0, none⟩ = some (.slice A0_0 l0_0.length c0_0) := (blk_cell BK471.out 0).trans rfl; have hcz9_1 : w8.cell? ⟨gb471, 1, none⟩ = some (.slice A0_1 l0_1.length c0_1) := (blk_cell BK471.out 1).trans rfl; have hfz9_0 := blk_frozen BK471.out 0; have hfz9_1 := blk_frozen BK471.out 1) | ((with_reducible refine gate_callee (f := 90) rfl ?_); refine goesL_ (some 13) rfl rfl Try.func90 (by kernel_rfl) rfl #[.agg #[.slice A0_0 l0_0.length c0_0, .slice A0_1 l0_1.length c0_1], .int .i64 a1] rfl (by (try simp only [List.map_toArray, List.map_cons, List.map_nil]); first | done | rfl | (simp only [List.length_drop, List.length_take]; rfl)) ?_; (with_reducible refine (graph_Distances.calls k _ _ l0_0 _ _ l0_1 a1 t473 _ ?side1 ?side2 ?side3 ?side4 A5.out).mono ?_); (case side1 => repeat (first | exact (Kd.C_below HR0_0.out HB.out) | (with_reducible refine Kd.C_alloc ?_ _) | (with_reducible refine Kd.C_drewN ?_ _) | (with_reducible refine Kd.C_drew ?_))); (case side2 => exact HC0_0.out); (case side3 => repeat (first | exact (Kd.C_below HR0_1.out HB.out) | (with_reducible refine Kd.C_alloc ?_ _) | (with_reducible refine Kd.C_drewN ?_ _) | (with_reducible refine Kd.C_drew ?_))); (case side4 => exact HC0_1.out); rintro e w10 ⟨v474, rfl, ho0, hb⟩; refine ⟨_, rfl, ?_⟩; have n0_ := Aside0.mk (Kd.R_lower ho0 (below_size (by repeat (first | (with_reducible first | exact HB.out | apply below_alloc | apply pw_below_drewN | apply below_drew1 | refine below_set ?_ GE471.out) | exact HB.out)))); have n1_ := Aside0.mk (blk_below (g := gb471) (o := .cells #[.slice A0_0 l0_0.length c0_0, .slice A0_1 l0_1.length c0_1] 27 (0, 0)) (by (with_reducible repeat (first | refine blk_drewN ?_ _ | refine blk_drew ?_ | refine blk_alloc ?_ _)); exact BK471.out) hb); have n2_ := Aside0.mk (below_step (by repeat (first | (with_reducible first | exact HB.out | apply below_alloc | apply pw_below_drewN | apply below_drew1 | refine below_set ?_ GE471.out) | exact HB.out)) hb); clear BK471; clear HB; have HO475 := n0_; have BK471 := n1_; have HB := n2_; clear n0_ n1_ n2_; (try clear hb); (try clear hb2); (try clear hk); (try clear hi); (try clear ho0); obtain ⟨Ao11, co11, eo11⟩ := Kd.R_slice HO475.out; subst eo11))
  go_loopg [5, 15] k (fun kq v5 v15 w' => ∃ (x5_1 : Int) (x15_1 : Int), v5 = .int .i64 x5_1 ∧ v15 = .int .i64 x15_1 ∧ Aside0 (graph_Eccentricity.l0 kq x5_1 t473 (t473.length : Int) x15_1 = some r) ∧ Aside0 (kq ≤ k) ∧ Aside0 (Kd.R (Kd.int .i64) 3 w' w.heap.size (fun _ => True) (.slice Ao11 t473.length co11) t473) ∧ Aside0 (w'.heap[gb471]? = some (.cells #[(.slice A0_0 l0_0.length c0_0), (.slice A0_1 l0_1.length c0_1)] 27 (0, 0))) ∧ Aside0 (Below w.heap.size w w'))
  case atStart => exact ⟨((-1)), (0), (by first | rfl | (simp; done) | (simp [*]; done)), (by first | rfl | (simp; done) | (simp [*]; done)), H', ⟨Nat.le_refl _⟩, ⟨by (with_reducible repeat (first | apply Kd.R_alloc | apply Kd.R_drewN | apply Kd.R_drew)); exact HO475.out⟩, ⟨by (with_reducible repeat (first | refine blk_drewN ?_ _ | refine blk_drew ?_ | refine blk_alloc ?_ _)); exact BK471.out⟩, ⟨by repeat (first | (with_reducible first | exact HB.out | apply below_alloc | apply pw_below_drewN | apply below_drew1 | refine below_set ?_ GE471.out) | exact HB.out)⟩⟩
  case round =>
   clear H'
   try clear p2
   try clear c4
   try clear c8
   try clear c9
   try clear hcz7_0
   try clear hcz7_1
   try clear hcz9_0
   try clear hcz9_1
   try clear hfz7_0
   try clear hfz7_1
   try clear hfz9_0
   try clear hfz9_1
   obtain ⟨x5_1, x15_1, rfl, rfl, HA, HK1, HO_13, BK471, HB⟩ := hrel
   cases gk with
   | zero => exact absurd HA.out (by simp [graph_Eccentricity.l0])
   | succ k1 =>
    have H := HA.out
    clear HA
    simp only [graph_Eccentricity.l0] at H
    by_cases c12 : x15_1 < (t473.length : Int)
    ·
     rw [if_pos c12] at H
     have c12b0 : decide (x15_1 < (t473.length : Int)) = true := decide_eq_true c12
     clear c12
     by_cases c13 : 0 ≤ x15_1
     ·
      rw [if_pos c13] at H
      have c13b0 : decide (0 ≤ x15_1) = true := decide_eq_true c13
      clear c13
      by_cases c14 : x15_1 < (t473.length : Int)
      ·
       rw [if_pos c14] at H
       have c14b0 : decide (x15_1 < (t473.length : Int)) = true := decide_eq_true c14
       clear c14
       obtain ⟨ji15, hji15⟩ : ∃ j_ : Int, (mx x5_1 (rd t473 x15_1)) = j_ := ⟨_, rfl⟩
       replace H : (graph_Eccentricity.l0 k1 ji15 t473 (t473.length : Int) (wrap64 (x15_1 + 1))) = some r := by first | (rw [hji15] at H; exact H) | (simp only [hji15] at H ⊢; exact H)
       have hji15_ : (if x5_1 < (rd t473 x15_1) then (rd t473 x15_1) else x5_1) = ji15 := hji15
       have H' := Aside0.mk H
       clear H
       have p476 : 0 ≤ (x15_1 : Int) := of_decide_eq_true (by first | (with_reducible assumption) | assumption)
       have q476 : x15_1 < (t473.length : Int) := of_decide_eq_true (by first | (with_reducible assumption) | assumption)
       obtain ⟨ad476, e476, hx476_0⟩ := Kd.at_int (Kd.R_reads' HO_13.out).2.2 x15_1 p476 q476
       cases e476
       replace p476 := eq_true p476
       replace q476 := eq_true q476
       go_wp2
       go_roundg k1
       case measure => have := HK1.out; omega
       case rel => exact ⟨(ji15), (wrap64 (x15_1 + 1)), (by first | rfl | (simp; done) | (simp only [← hji15] <;> (first | rfl | simp)) | (simp [*]; done)), (by first | rfl | (simp; done) | (simp [*]; done)), H', ⟨by have := HK1.out; omega⟩, ⟨by (with_reducible repeat (first | apply Kd.R_alloc | apply Kd.R_drewN | apply Kd.R_drew)); exact HO_13.out⟩, ⟨by (with_reducible repeat (first | refine blk_drewN ?_ _ | refine blk_drew ?_ | refine blk_alloc ?_ _)); exact BK471.out⟩, ⟨by repeat (first | (with_reducible first | exact HB.out | apply below_alloc | apply pw_below_drewN | apply below_drew1 | refine below_set ?_ GE471.out) | exact HB.out)⟩⟩
      ·
       rw [if_neg c14] at H
       exact absurd H (by simp)
     ·
      rw [if_neg c13] at H
      exact absurd H (by simp)
    ·
     rw [if_neg c12] at H
     have c12b0 : decide (x15_1 < (t473.length : Int)) = false := decide_eq_false c12
     clear c12
     obtain rfl := Option.some.inj H
     go_wp2
     go_ret
     exact ⟨by first | rfl | (simp [errW_none, errW_some] <;> rfl) | (simp [*, errW_none, errW_some] <;> rfl), by repeat (first | (with_reducible first | exact HB.out | apply below_alloc | apply pw_below_drewN | apply below_drew1 | refine below_set ?_ GE471.out) | exact HB.out)⟩
 ·
  replace c4 := Bool.eq_false_iff.mpr c4
  subst c4
  have H1 : (some (-1)) = some r := by rw [if_neg (show ¬ (false = true) by decide)] at H; exact H
  clear H
  have H := H1
  clear H1
  obtain rfl := Option.some.inj H
  go_enter Try.func94, Try.ntmps94
  go_wp2_with (first | ((with_reducible refine gate_dst (N := 2) rfl ?_); refine box_event ?hg (N := 2) ?hd (cs := #[.slice A0_0 l0_0.length c0_0, .slice A0_1 l0_1.length c0_1]) (t := 27) ?hr ?_; (case hd => rfl); (case hg => rfl); (case hr => first | (go_simp; done) | (go_simp; rfl)); intro gb471 hg w16 hbox hb; have n0_ := Aside0.mk (below_step (by repeat (first | (with_reducible first | exact HB.out | apply below_alloc | apply pw_below_drewN | apply below_drew1) | exact HB.out)) hb); have n1_ := Aside0.mk (hbox); have n2_ := Aside0.mk ((by rw [hg]; exact (below_size (by repeat (first | (with_reducible first | exact HB.out | apply below_alloc | apply pw_below_drewN | apply below_drew1) | exact HB.out))) : w.heap.size ≤ gb471)); have n3_ := Aside0.mk ((by rw [hg]; exact (below_size (by repeat (first | (with_reducible first | exact HB.out | apply below_alloc | apply pw_below_drewN | apply below_drew1) | exact HB.out))) : w.heap.size ≤ gb471)); clear HB; have HB := n0_; have BK471 := n1_; have GW471 := n2_; have GE471 := n3_; clear n0_ n1_ n2_ n3_; clear hb hbox hg; have hcz17_0 : w16.cell? ⟨gb471, 0, none⟩ = some (.slice A0_0 l0_0.length c0_0) := (blk_cell BK471.out 0).trans rfl; have hcz17_1 : w16.cell? ⟨gb471, 1, none⟩ = some (.slice A0_1 l0_1.length c0_1) := (blk_cell BK471.out 1).trans rfl; have hfz17_0 := blk_frozen BK471.out 0; have hfz17_1 := blk_frozen BK471.out 1) | ((with_reducible refine gate_callee (f := 87) rfl ?_); refine goesL_ (some 9) rfl rfl Try.func87 (by kernel_rfl) rfl #[.agg #[.slice A0_0 l0_0.length c0_0, .slice A0_1 l0_1.length c0_1]] rfl (by (try simp only [List.map_toArray, List.map_cons, List.map_nil]); first | done | rfl | (simp only [List.length_drop, List.length_take]; rfl)) ?_; (with_reducible refine (graph_Connected.calls k _ _ l0_0 _ _ l0_1 false _ ?side1 ?side2 ?side3 ?side4 A3.out).mono ?_); (case side1 => repeat (first | exact (Kd.C_below HR0_0.out HB.out) | (with_reducible refine Kd.C_alloc ?_ _) | (with_reducible refine Kd.C_drewN ?_ _) | (with_reducible refine Kd.C_drew ?_))); (case side2 => exact HC0_0.out); (case side3 => repeat (first | exact (Kd.C_below HR0_1.out HB.out) | (with_reducible refine Kd.C_alloc ?_ _) | (with_reducible refine Kd.C_drewN ?_ _) | (with_reducible refine Kd.C_drew ?_))); (case side4 => exact HC0_1.out); rintro e w18 ⟨rfl, hb⟩; refine ⟨_, rfl, ?_⟩; have n0_ := Aside0.mk (blk_below (g := gb471) (o := .cells #[.slice A0_0 l0_0.length c0_0, .slice A0_1 l0_1.length c0_1] 27 (0, 0)) (by (with_reducible repeat (first | refine blk_drewN ?_ _ | refine blk_drew ?_ | refine blk_alloc ?_ _)); exact BK471.out) hb); have n1_ := Aside0.mk (below_step (by repeat (first | (with_reducible first | exact HB.out | apply below_alloc | apply pw_below_drewN | apply below_drew1 | refine below_set ?_ GE471.out) | exact HB.out)) hb); clear BK471; clear HB; have BK471 := n0_; have HB := n1_; clear n0_ n1_; (try clear hb); (try clear hb2); (try clear hk); (try clear hi)))
  go_ret
  exact ⟨by first | rfl | (simp [errW_none, errW_some] <;> rfl) | (simp [*, errW_none, errW_some] <;> rfl), by repeat (first | (with_reducible first | exact HB.out | apply below_alloc | apply pw_below_drewN | apply below_drew1 | refine below_set ?_ GE471.out) | exact HB.out)⟩
end Go.Proofs.YthapikakneikbaaG
namespace Go.Proofs.YthapikakneikbaaG
open Go.RowKit Go.Proofs.YthapikakneikbaaW.PrintWords Go.Proofs.YthapikakneikbaaW.PrintLast Go.Proofs.YthapikakneikbaaW.PrintMore
attribute [local go_sem] max2_int min2_int max_two min_two max_three min_three max_four min_four   -- for this text's walks alone
set_option linter.unusedVariables false
set_option linter.unusedSimpArgs false
def selfstabref01_greatest.l0 : Nat → List Int → Int → Int → Option (Int)
 | 0, _, _, _ => none
 | k + 1, x0, x3, x4 => if x4 < (x0.length : Int) then (if 0 ≤ x4 then (if (rd x0 x4) < 0 then (some (-1)) else (selfstabref01_greatest.l0 k x0 (mx x3 (rd x0 x4)) (wrap64 (x4 + 1)))) else (none)) else (some x3)
def selfstabref01_greatest.f (k : Nat) (l0 : List Int) : Option (Int) := selfstabref01_greatest.l0 k l0 (-1) 0
theorem selfstabref01_greatest.mono_l : ∀ k, (∀ y0 y1 y2, LeO (selfstabref01_greatest.l0 k y0 y1 y2) (selfstabref01_greatest.l0 (k + 1) y0 y1 y2))
 | 0 => fun _ _ _ r h => by simp [selfstabref01_greatest.l0] at h
 | k + 1 => by
  have ih0 := selfstabref01_greatest.mono_l k
  ·
   intro y0 y1 y2
   unfold selfstabref01_greatest.l0
   repeat' first
   | (with_reducible exact ih0 _ _ _)
   | (with_reducible exact LeO.refl _)
   | (with_reducible exact LeO.none _)
   | (with_reducible refine LeO.ite ?_ ?_)
   | (with_reducible refine LeO.bind ?_ (fun _ => ?_))
   | exact ih0 _ _ _
   | exact LeO.none _
   | refine LeO.ite ?_ ?_
   | refine LeO.bind ?_ (fun _ => ?_)
theorem selfstabref01_greatest.mono : ∀ a0 k, LeO (selfstabref01_greatest.f k a0) (selfstabref01_greatest.f (k + 1) a0) := by
 intro a0 k
 have ih0 := selfstabref01_greatest.mono_l k
 unfold selfstabref01_greatest.f
 repeat' first
   | (with_reducible exact ih0 _ _ _)
   | (with_reducible exact LeO.refl _)
   | (with_reducible exact LeO.none _)
   | (with_reducible refine LeO.ite ?_ ?_)
   | (with_reducible refine LeO.bind ?_ (fun _ => ?_))
   | exact ih0 _ _ _
   | exact LeO.none _
   | refine LeO.ite ?_ ?_
   | refine LeO.bind ?_ (fun _ => ?_)
set_option maxHeartbeats 8000000 in
set_option maxRecDepth 100000 in
theorem selfstabref01_greatest.calls (k : Nat) (A0 : Option Addr) (c0 : Nat) (l0 : List Int) (r : Int) (w : World) (hr0 : Kd.C (Kd.int .i64) w A0 l0.length l0) (hc0 : l0.length ≤ c0) (h : selfstabref01_greatest.f k l0 = some r) :
  Calls Try.prog 122 #[.slice A0 l0.length c0] w fun e w' => e = .returned (.int .i64 r) ∧ Below w.heap.size w w' := by
 have HR0 := Aside0.mk hr0
 have HC0 := Aside0.mk hc0
 clear hr0 hc0
 have HB := Aside0.mk (Below.refl w.heap.size w)
 have H : (selfstabref01_greatest.l0 k l0 (-1) 0) = some r := h
 clear h
 have H' := Aside0.mk H
 clear H
 go_enter Try.func122, Try.ntmps122
 go_wp2
 go_loopg [3, 4] k (fun kq v3 v4 w' => ∃ (x3_1 : Int) (x4_1 : Int), v3 = .int .i64 x3_1 ∧ v4 = .int .i64 x4_1 ∧ Aside0 (selfstabref01_greatest.l0 kq l0 x3_1 x4_1 = some r) ∧ Aside0 (kq ≤ k) ∧ Aside0 (Below w.heap.size w w'))
 case atStart => exact ⟨((-1)), (0), (by first | rfl | (simp; done) | (simp [*]; done)), (by first | rfl | (simp; done) | (simp [*]; done)), H', ⟨Nat.le_refl _⟩, ⟨by repeat (first | (with_reducible first | exact HB.out | apply below_alloc | apply pw_below_drewN | apply below_drew1) | exact HB.out)⟩⟩
 case round =>
  clear H'
  try clear c1
  obtain ⟨x3_1, x4_1, rfl, rfl, HA, HK1, HB⟩ := hrel
  cases gk with
  | zero => exact absurd HA.out (by simp [selfstabref01_greatest.l0])
  | succ k1 =>
   have H := HA.out
   clear HA
   simp only [selfstabref01_greatest.l0] at H
   by_cases c2 : x4_1 < (l0.length : Int)
   ·
    rw [if_pos c2] at H
    have c2b0 : decide (x4_1 < (l0.length : Int)) = true := decide_eq_true c2
    clear c2
    by_cases c3 : 0 ≤ x4_1
    ·
     rw [if_pos c3] at H
     have c3b0 : decide (0 ≤ x4_1) = true := decide_eq_true c3
     clear c3
     by_cases c4 : (rd l0 x4_1) < 0
     ·
      rw [if_pos c4] at H
      have c4b0 : decide ((rd l0 x4_1) < 0) = true := decide_eq_true c4
      clear c4
      obtain rfl := Option.some.inj H
      have p543 : 0 ≤ (x4_1 : Int) := of_decide_eq_true (by first | (with_reducible assumption) | assumption)
      have q543 : x4_1 < (l0.length : Int) := of_decide_eq_true (by first | (with_reducible assumption) | assumption)
      obtain ⟨ad543, e543, hx543_0⟩ := Kd.at_int HR0.out x4_1 p543 q543
      cases e543
      replace hx543_0 := (HB.out.cell (World.block_lt_of_cell? w _ hx543_0)).trans hx543_0
      replace p543 := eq_true p543
      replace q543 := eq_true q543
      go_wp2
      go_ret
      exact ⟨by first | rfl | (simp [errW_none, errW_some] <;> rfl) | (simp [*, errW_none, errW_some] <;> rfl), by repeat (first | (with_reducible first | exact HB.out | apply below_alloc | apply pw_below_drewN | apply below_drew1) | exact HB.out)⟩
     ·
      rw [if_neg c4] at H
      have c4b0 : decide ((rd l0 x4_1) < 0) = false := decide_eq_false c4
      clear c4
      obtain ⟨ji5, hji5⟩ : ∃ j_ : Int, (mx x3_1 (rd l0 x4_1)) = j_ := ⟨_, rfl⟩
      replace H : (selfstabref01_greatest.l0 k1 l0 ji5 (wrap64 (x4_1 + 1))) = some r := by first | (rw [hji5] at H; exact H) | (simp only [hji5] at H ⊢; exact H)
      have hji5_ : (if x3_1 < (rd l0 x4_1) then (rd l0 x4_1) else x3_1) = ji5 := hji5
      have H' := Aside0.mk H
      clear H
      have p543 : 0 ≤ (x4_1 : Int) := of_decide_eq_true (by first | (with_reducible assumption) | assumption)
      have q543 : x4_1 < (l0.length : Int) := of_decide_eq_true (by first | (with_reducible assumption) | assumption)
      obtain ⟨ad543, e543, hx543_0⟩ := Kd.at_int HR0.out x4_1 p543 q543
      cases e543
      replace hx543_0 := (HB.out.cell (World.block_lt_of_cell? w _ hx543_0)).trans hx543_0
      replace p543 := eq_true p543
      replace q543 := eq_true q543
      have p544 : 0 ≤ (x4_1 : Int) := of_decide_eq_true (by first | (with_reducible assumption) | assumption)
      have q544 : x4_1 < (l0.length : Int) := of_decide_eq_true (by first | (with_reducible assumption) | assumption)
      obtain ⟨ad544, e544, hx544_0⟩ := Kd.at_int HR0.out x4_1 p544 q544
      obtain rfl : ad543 = ad544 := (by injection e544)
      replace hx544_0 := (HB.out.cell (World.block_lt_of_cell? w _ hx544_0)).trans hx544_0
      replace p544 := eq_true p544
      replace q544 := eq_true q544
      go_wp2
      go_roundg k1
      case measure => have := HK1.out; omega
      case rel => exact ⟨(ji5), (wrap64 (x4_1 + 1)), (by first | rfl | (simp; done) | (simp only [← hji5] <;> (first | rfl | simp)) | (simp [*]; done)), (by first | rfl | (simp; done) | (simp [*]; done)), H', ⟨by have := HK1.out; omega⟩, ⟨by repeat (first | (with_reducible first | exact HB.out | apply below_alloc | apply pw_below_drewN | apply below_drew1) | exact HB.out)⟩⟩
    ·
     rw [if_neg c3] at H
     exact absurd H (by simp)
   ·
    rw [if_neg c2] at H
    have c2b0 : decide (x4_1 < (l0.length : Int)) = false := decide_eq_false c2
    clear c2
    obtain rfl := Option.some.inj H
    go_wp2
    go_ret
    exact ⟨by first | rfl | (simp [errW_none, errW_some] <;> rfl) | (simp [*, errW_none, errW_some] <;> rfl), by repeat (first | (with_reducible first | exact HB.out | apply below_alloc | apply pw_below_drewN | apply below_drew1) | exact HB.out)⟩
end Go.Proofs.YthapikakneikbaaG
namespace Go.Proofs.YthapikakneikbaaG
open Go.RowKit Go.Proofs.YthapikakneikbaaW.PrintWords Go.Proofs.YthapikakneikbaaW.PrintLast Go.Proofs.YthapikakneikbaaW.PrintMore
attribute [local go_sem] max2_int min2_int max_two min_two max_three min_three max_four min_four   -- for this text's walks alone
set_option linter.unusedVariables false
set_option linter.unusedSimpArgs false
def selfstabref01_Connected.f (k : Nat) (l0_0 : List Int) (l0_1 : List (List (S60))) : Option (Bool) := (selfstabref01_Distances.f k l0_0 l0_1 0).bind fun t559 => ((selfstabref01_greatest.f k t559).bind fun t562 => (some (decide (t562 ≥ 0))))
theorem selfstabref01_Connected.mono : ∀ a0 a1 k, LeO (selfstabref01_Connected.f k a0 a1) (selfstabref01_Connected.f (k + 1) a0 a1) := by
 intro a0 a1 k
 unfold selfstabref01_Connected.f
 repeat' first
   | (with_reducible exact selfstabref01_Distances.mono _ _ _ _)
   | (with_reducible exact selfstabref01_greatest.mono _ _)
   | (with_reducible exact LeO.refl _)
   | (with_reducible exact LeO.none _)
   | (with_reducible refine LeO.ite ?_ ?_)
   | (with_reducible refine LeO.bind ?_ (fun _ => ?_))
   | exact selfstabref01_Distances.mono _ _ _ _
   | exact selfstabref01_greatest.mono _ _
   | exact LeO.none _
   | refine LeO.ite ?_ ?_
   | refine LeO.bind ?_ (fun _ => ?_)
set_option maxHeartbeats 8000000 in
set_option maxRecDepth 100000 in
theorem selfstabref01_Connected.calls (k : Nat) (A0_0 : Option Addr) (c0_0 : Nat) (l0_0 : List Int) (A0_1 : Option Addr) (c0_1 : Nat) (l0_1 : List (List (S60))) (r : Bool) (w : World) (hr0_0 : Kd.C (Kd.int .i64) w A0_0 l0_0.length l0_0) (hc0_0 : l0_0.length ≤ c0_0) (hr0_1 : Kd.C (Kd.slice 60 k60) w A0_1 l0_1.length l0_1) (hc0_1 : l0_1.length ≤ c0_1) (h : selfstabref01_Connected.f k l0_0 l0_1 = some r) :
  Calls Try.prog 88 #[.agg #[.slice A0_0 l0_0.length c0_0, .slice A0_1 l0_1.length c0_1]] w fun e w' => e = .returned (.bool r) ∧ Below w.heap.size w w' := by
 have hu27 := Try.underlying27
 have HR0_0 := Aside0.mk hr0_0
 have HC0_0 := Aside0.mk hc0_0
 clear hr0_0 hc0_0
 have HR0_1 := Aside0.mk hr0_1
 have HC0_1 := Aside0.mk hc0_1
 clear hr0_1 hc0_1
 have HB := Aside0.mk (Below.refl w.heap.size w)
 have H : ((selfstabref01_Distances.f k l0_0 l0_1 0).bind fun t559 => ((selfstabref01_greatest.f k t559).bind fun t562 => (some (decide (t562 ≥ 0))))) = some r := h
 clear h
 replace H := Option.bind_eq_some_iff.mp H
 obtain ⟨t559, A20, H⟩ := H
 replace H : ((selfstabref01_greatest.f k t559).bind fun t562 => (some (decide (t562 ≥ 0)))) = some r := H
 have A2 := Aside0.mk A20
 clear A20
 replace H := Option.bind_eq_some_iff.mp H
 obtain ⟨t562, A30, H⟩ := H
 replace H : (some (decide (t562 ≥ 0))) = some r := H
 have A3 := Aside0.mk A30
 clear A30
 obtain rfl := Option.some.inj H
 go_enter Try.func88, Try.ntmps88
 go_wp2_with (first | ((with_reducible refine gate_dst (N := 1) rfl ?_); refine box_event ?hg (N := 1) ?hd (cs := #[.slice A0_0 l0_0.length c0_0, .slice A0_1 l0_1.length c0_1]) (t := 27) ?hr ?_; (case hd => rfl); (case hg => rfl); (case hr => first | (go_simp; done) | (go_simp; rfl)); intro gb558 hg w4 hbox hb; have n0_ := Aside0.mk (below_step (by repeat (first | (with_reducible first | exact HB.out | apply below_alloc | apply pw_below_drewN | apply below_drew1) | exact HB.out)) hb); have n1_ := Aside0.mk (hbox); have n2_ := Aside0.mk ((by rw [hg]; exact (below_size (by repeat (first | (with_reducible first | exact HB.out | apply below_alloc | apply pw_below_drewN | apply below_drew1) | exact HB.out))) : w.heap.size ≤ gb558)); have n3_ := Aside0.mk ((by rw [hg]; exact (below_size (by repeat (first | (with_reducible first | exact HB.out | apply below_alloc | apply pw_below_drewN | apply below_drew1) | exact HB.out))) : w.heap.size ≤ gb558)); clear HB; have HB := n0_; have BK558 := n1_; have GW558 := n2_; have GE558 := n3_; clear n0_ n1_ n2_ n3_; clear hb hbox hg; have hcz5_0 : w4.cell? ⟨gb558, 0, none⟩ = some (.slice A0_0 l0_0.length c0_0) := (blk_cell BK558.out 0).trans rfl; have hcz5_1 : w4.cell? ⟨gb558, 1, none⟩ = some (.slice A0_1 l0_1.length c0_1) := (blk_cell BK558.out 1).trans rfl; have hfz5_0 := blk_frozen BK558.out 0; have hfz5_1 := blk_frozen BK558.out 1) | ((with_reducible refine gate_callee (f := 123) rfl ?_); refine goesL_ (some 4) rfl rfl Try.func123 (by kernel_rfl) rfl #[.agg #[.slice A0_0 l0_0.length c0_0, .slice A0_1 l0_1.length c0_1], .int .i64 0] rfl (by (try simp only [List.map_toArray, List.map_cons, List.map_nil]); first | done | rfl | (simp only [List.length_drop, List.length_take]; rfl)) ?_; (with_reducible refine (selfstabref01_Distances.calls k _ _ l0_0 _ _ l0_1 0 t559 _ ?side1 ?side2 ?side3 ?side4 A2.out).mono ?_); (case side1 => repeat (first | exact (Kd.C_below HR0_0.out HB.out) | (with_reducible refine Kd.C_alloc ?_ _) | (with_reducible refine Kd.C_drewN ?_ _) | (with_reducible refine Kd.C_drew ?_))); (case side2 => exact HC0_0.out); (case side3 => repeat (first | exact (Kd.C_below HR0_1.out HB.out) | (with_reducible refine Kd.C_alloc ?_ _) | (with_reducible refine Kd.C_drewN ?_ _) | (with_reducible refine Kd.C_drew ?_))); (case side4 => exact HC0_1.out); rintro e w6 ⟨v560, rfl, ho0, hb⟩; refine ⟨_, rfl, ?_⟩; have n0_ := Aside0.mk (Kd.R_lower ho0 (below_size (by repeat (first | (with_reducible first | exact HB.out | apply below_alloc | apply pw_below_drewN | apply below_drew1 | refine below_set ?_ GE558.out) | exact HB.out)))); have n1_ := Aside0.mk (blk_below (g := gb558) (o := .cells #[.slice A0_0 l0_0.length c0_0, .slice A0_1 l0_1.length c0_1] 27 (0, 0)) (by (with_reducible repeat (first | refine blk_drewN ?_ _ | refine blk_drew ?_ | refine blk_alloc ?_ _)); exact BK558.out) hb); have n2_ := Aside0.mk (below_step (by repeat (first | (with_reducible first | exact HB.out | apply below_alloc | apply pw_below_drewN | apply below_drew1 | refine below_set ?_ GE558.out) | exact HB.out)) hb); clear BK558; clear HB; have HO561 := n0_; have BK558 := n1_; have HB := n2_; clear n0_ n1_ n2_; (try clear hb); (try clear hb2); (try clear hk); (try clear hi); (try clear ho0); obtain ⟨Ao7, co7, eo7⟩ := Kd.R_slice HO561.out; subst eo7) | ((with_reducible refine gate_callee (f := 122) rfl ?_); refine goesL_ (some 5) rfl rfl Try.func122 (by kernel_rfl) rfl #[.slice Ao7 t559.length co7] rfl (by (try simp only [List.map_toArray, List.map_cons, List.map_nil]); first | done | rfl | (simp only [List.length_drop, List.length_take]; rfl)) ?_; (with_reducible refine (selfstabref01_greatest.calls k _ _ t559 t562 _ ?side1 ?side2 A3.out).mono ?_); (case side1 => repeat (first | exact (Kd.R_reads' HO561.out).2.2 | (with_reducible refine Kd.C_alloc ?_ _) | (with_reducible refine Kd.C_drewN ?_ _) | (with_reducible refine Kd.C_drew ?_))); (case side2 => exact (Kd.R_reads' HO561.out).2.1); rintro e w8 ⟨rfl, hb⟩; refine ⟨_, rfl, ?_⟩; have n0_ := Aside0.mk (Kd.R_below (by (with_reducible repeat (first | apply Kd.R_alloc | apply Kd.R_drewN | apply Kd.R_drew)); exact HO561.out) hb); have n1_ := Aside0.mk (blk_below (g := gb558) (o := .cells #[.slice A0_0 l0_0.length c0_0, .slice A0_1 l0_1.length c0_1] 27 (0, 0)) (by (with_reducible repeat (first | refine blk_drewN ?_ _ | refine blk_drew ?_ | refine blk_alloc ?_ _)); exact BK558.out) hb); have n2_ := Aside0.mk (below_step (by repeat (first | (with_reducible first | exact HB.out | apply below_alloc | apply pw_below_drewN | apply below_drew1 | refine below_set ?_ GE558.out) | exact HB.out)) hb); clear HO561; clear BK558; clear HB; have HO561 := n0_; have BK558 := n1_; have HB := n2_; clear n0_ n1_ n2_; (try clear hb); (try clear hb2); (try clear hk); (try clear hi)))
 go_ret
 exact ⟨by first | rfl | (simp [errW_none, errW_some] <;> rfl) | (simp [*, errW_none, errW_some] <;> rfl), by repeat (first | (with_reducible first | exact HB.out | apply below_alloc | apply pw_below_drewN | apply below_drew1 | refine below_set ?_ GE558.out) | exact HB.out)⟩
end Go.Proofs.YthapikakneikbaaG
namespace Go.Proofs.YthapikakneikbaaG
open Go.RowKit Go.Proofs.YthapikakneikbaaW.PrintWords Go.Proofs.YthapikakneikbaaW.PrintLast Go.Proofs.YthapikakneikbaaW.PrintMore
attribute [local go_sem] max2_int min2_int max_two min_two max_three min_three max_four min_four   -- for this text's walks alone
set_option linter.unusedVariables false
set_option linter.unusedSimpArgs false
def selfstabref01_Eccentricity.f (k : Nat) (l0_0 : List Int) (l0_1 : List (List (S60))) (a1 : Int) : Option (Int) := (selfstabref01_Distances.f k l0_0 l0_1 a1).bind fun t603 => ((selfstabref01_greatest.f k t603).bind fun t606 => (some t606))
theorem selfstabref01_Eccentricity.mono : ∀ a0 a1 a2 k, LeO (selfstabref01_Eccentricity.f k a0 a1 a2) (selfstabref01_Eccentricity.f (k + 1) a0 a1 a2) := by
 intro a0 a1 a2 k
 unfold selfstabref01_Eccentricity.f
 repeat' first
   | (with_reducible exact selfstabref01_Distances.mono _ _ _ _)
   | (with_reducible exact selfstabref01_greatest.mono _ _)
   | (with_reducible exact LeO.refl _)
   | (with_reducible exact LeO.none _)
   | (with_reducible refine LeO.ite ?_ ?_)
   | (with_reducible refine LeO.bind ?_ (fun _ => ?_))
   | exact selfstabref01_Distances.mono _ _ _ _
   | exact selfstabref01_greatest.mono _ _
   | exact LeO.none _
   | refine LeO.ite ?_ ?_
   | refine LeO.bind ?_ (fun _ => ?_)
set_option maxHeartbeats 8000000 in
set_option maxRecDepth 100000 in
theorem selfstabref01_Eccentricity.calls (k : Nat) (A0_0 : Option Addr) (c0_0 : Nat) (l0_0 : List Int) (A0_1 : Option Addr) (c0_1 : Nat) (l0_1 : List (List (S60))) (a1 : Int) (r : Int) (w : World) (hr0_0 : Kd.C (Kd.int .i64) w A0_0 l0_0.length l0_0) (hc0_0 : l0_0.length ≤ c0_0) (hr0_1 : Kd.C (Kd.slice 60 k60) w A0_1 l0_1.length l0_1) (hc0_1 : l0_1.length ≤ c0_1) (h : selfstabref01_Eccentricity.f k l0_0 l0_1 a1 = some r) :
  Calls Try.prog 95 #[.agg #[.slice A0_0 l0_0.length c0_0, .slice A0_1 l0_1.length c0_1], .int .i64 a1] w fun e w' => e = .returned (.int .i64 r) ∧ Below w.heap.size w w' := by
 have hu27 := Try.underlying27
 have HR0_0 := Aside0.mk hr0_0
 have HC0_0 := Aside0.mk hc0_0
 clear hr0_0 hc0_0
 have HR0_1 := Aside0.mk hr0_1
 have HC0_1 := Aside0.mk hc0_1
 clear hr0_1 hc0_1
 have HB := Aside0.mk (Below.refl w.heap.size w)
 have H : ((selfstabref01_Distances.f k l0_0 l0_1 a1).bind fun t603 => ((selfstabref01_greatest.f k t603).bind fun t606 => (some t606))) = some r := h
 clear h
 replace H := Option.bind_eq_some_iff.mp H
 obtain ⟨t603, A30, H⟩ := H
 replace H : ((selfstabref01_greatest.f k t603).bind fun t606 => (some t606)) = some r := H
 have A3 := Aside0.mk A30
 clear A30
 replace H := Option.bind_eq_some_iff.mp H
 obtain ⟨t606, A40, H⟩ := H
 replace H : (some t606) = some r := H
 have A4 := Aside0.mk A40
 clear A40
 obtain rfl := Option.some.inj H
 go_enter Try.func95, Try.ntmps95
 go_wp2_with (first | ((with_reducible refine gate_dst (N := 2) rfl ?_); refine box_event ?hg (N := 2) ?hd (cs := #[.slice A0_0 l0_0.length c0_0, .slice A0_1 l0_1.length c0_1]) (t := 27) ?hr ?_; (case hd => rfl); (case hg => rfl); (case hr => first | (go_simp; done) | (go_simp; rfl)); intro gb602 hg w5 hbox hb; have n0_ := Aside0.mk (below_step (by repeat (first | (with_reducible first | exact HB.out | apply below_alloc | apply pw_below_drewN | apply below_drew1) | exact HB.out)) hb); have n1_ := Aside0.mk (hbox); have n2_ := Aside0.mk ((by rw [hg]; exact (below_size (by repeat (first | (with_reducible first | exact HB.out | apply below_alloc | apply pw_below_drewN | apply below_drew1) | exact HB.out))) : w.heap.size ≤ gb602)); have n3_ := Aside0.mk ((by rw [hg]; exact (below_size (by repeat (first | (with_reducible first | exact HB.out | apply below_alloc | apply pw_below_drewN | apply below_drew1) | exact HB.out))) : w.heap.size ≤ gb602)); clear HB; have HB := n0_; have BK602 := n1_; have GW602 := n2_; have GE602 := n3_; clear n0_ n1_ n2_ n3_; clear hb hbox hg; have hcz6_0 : w5.cell? ⟨gb602, 0, none⟩ = some (.slice A0_0 l0_0.length c0_0) := (blk_cell BK602.out 0).trans rfl; have hcz6_1 : w5.cell? ⟨gb602, 1, none⟩ = some (.slice A0_1 l0_1.length c0_1) := (blk_cell BK602.out 1).trans rfl; have hfz6_0 := blk_frozen BK602.out 0; have hfz6_1 := blk_frozen BK602.out 1) | ((with_reducible refine gate_callee (f := 123) rfl ?_); refine goesL_ (some 7) rfl rfl Try.func123 (by kernel_rfl) rfl #[.agg #[.slice A0_0 l0_0.length c0_0, .slice A0_1 l0_1.length c0_1], .int .i64 a1] rfl (by (try simp only [List.map_toArray, List.map_cons, List.map_nil]); first | done | rfl | (simp only [List.length_drop, List.length_take]; rfl)) ?_; (with_reducible refine (selfstabref01_Distances.calls k _ _ l0_0 _ _ l0_1 a1 t603 _ ?side1 ?side2 ?side3 ?side4 A3.out).mono ?_); (case side1 => repeat (first | exact (Kd.C_below HR0_0.out HB.out) | (with_reducible refine Kd.C_alloc ?_ _) | (with_reducible refine Kd.C_drewN ?_ _) | (with_reducible refine Kd.C_drew ?_))); (case side2 => exact HC0_0.out); (case side3 => repeat (first | exact (Kd.C_below HR0_1.out HB.out) | (with_reducible refine Kd.C_alloc ?_ _) | (with_reducible refine Kd.C_drewN ?_ _) | (with_reducible refine Kd.C_drew ?_))); (case side4 => exact HC0_1.out); rintro e w7 ⟨v604, rfl, ho0, hb⟩; refine ⟨_, rfl, ?_⟩; have n0_ := Aside0.mk (Kd.R_lower ho0 (below_size (by repeat (first | (with_reducible first | exact HB.out | apply below_alloc | apply pw_below_drewN | apply below_drew1 | refine below_set ?_ GE602.out) | exact HB.out)))); have n1_ := Aside0.mk (blk_below (g := gb602) (o := .cells #[.slice A0_0 l0_0.length c0_0, .slice A0_1 l0_1.length c0_1] 27 (0, 0)) (by (with_reducible repeat (first | refine blk_drewN ?_ _ | refine blk_drew ?_ | refine blk_alloc ?_ _)); exact BK602.out) hb); have n2_ := Aside0.mk (below_step (by repeat (first | (with_reducible first | exact HB.out | apply below_alloc | apply pw_below_drewN | apply below_drew1 | refine below_set ?_ GE602.out) | exact HB.out)) hb); clear BK602; clear HB; have HO605 := n0_; have BK602 := n1_; have HB := n2_; clear n0_ n1_ n2_; (try clear hb); (try clear hb2); (try clear hk); (try clear hi); (try clear ho0); obtain ⟨Ao8, co8, eo8⟩ := Kd.R_slice HO605.out; subst eo8) | ((with_reducible refine gate_callee (f := 122) rfl ?_); refine goesL_ (some 8) rfl rfl Try.func122 (by kernel_rfl) rfl #[.slice Ao8 t603.length co8] rfl (by (try simp only [List.map_toArray, List.map_cons, List.map_nil]); first | done | rfl | (simp only [List.length_drop, List.length_take]; rfl)) ?_; (with_reducible refine (selfstabref01_greatest.calls k _ _ t603 t606 _ ?side1 ?side2 A4.out).mono ?_); (case side1 => repeat (first | exact (Kd.R_reads' HO605.out).2.2 | (with_reducible refine Kd.C_alloc ?_ _) | (with_reducible refine Kd.C_drewN ?_ _) | (with_reducible refine Kd.C_drew ?_))); (case side2 => exact (Kd.R_reads' HO605.out).2.1); rintro e w9 ⟨rfl, hb⟩; refine ⟨_, rfl, ?_⟩; have n0_ := Aside0.mk (Kd.R_below (by (with_reducible repeat (first | apply Kd.R_alloc | apply Kd.R_drewN | apply Kd.R_drew)); exact HO605.out) hb); have n1_ := Aside0.mk (blk_below (g := gb602) (o := .cells #[.slice A0_0 l0_0.length c0_0, .slice A0_1 l0_1.length c0_1] 27 (0, 0)) (by (with_reducible repeat (first | refine blk_drewN ?_ _ | refine blk_drew ?_ | refine blk_alloc ?_ _)); exact BK602.out) hb); have n2_ := Aside0.mk (below_step (by repeat (first | (with_reducible first | exact HB.out | apply below_alloc | apply pw_below_drewN | apply below_drew1 | refine below_set ?_ GE602.out) | exact HB.out)) hb); clear HO605; clear BK602; clear HB; have HO605 := n0_; have BK602 := n1_; have HB := n2_; clear n0_ n1_ n2_; (try clear hb); (try clear hb2); (try clear hk); (try clear hi)))
 go_ret
 exact ⟨by first | rfl | (simp [errW_none, errW_some] <;> rfl) | (simp [*, errW_none, errW_some] <;> rfl), by repeat (first | (with_reducible first | exact HB.out | apply below_alloc | apply pw_below_drewN | apply below_drew1 | refine below_set ?_ GE602.out) | exact HB.out)⟩
end Go.Proofs.YthapikakneikbaaG
/-
  Plain laws: connected graphs, eccentricities, first ports towards a node.
-/
namespace Go.Proofs.YthapikakneikbaaG
open Go.RowKit Go.Proofs.YthapikakneikbaaW.PrintWords Go.Proofs.YthapikakneikbaaW.PrintMore
/-- No number of the list is negative, and there is one. -/
def connS (l : List Int) : Bool := (l.all fun x => decide (0 ≤ x)) && decide (0 < l.length)
def maxS (l : List Int) : Int := l.foldl (fun m x => if m < x then x else m) (-1)
theorem take_all {l : List Int} {q : Int → Bool} {i : Nat} (h : i < l.length) : (l.take (i + 1)).all q = ((l.take i).all q && q l[i]) := by
  rw [List.take_succ_eq_append_getElem h, List.all_append]
  simp
theorem conn_l0 (l : List Int) (hl : l.length ≤ 1000) : ∀ m i, m + i = l.length → ((l.take i).all fun x => decide (0 ≤ x)) = true →
    Ev (fun k => graph_Connected.l0 k l l (l.length : Int) (i : Int)) (connS l) := by
  intro m
  induction m with
  | zero =>
    intro i hm h
    refine Ev.step (f := fun _ => some (connS l)) (fun k => ?_) Ev.some
    rw [graph_Connected.l0, if_neg (by omega)]
    rw [List.take_of_length_le (by omega)] at h
    unfold connS
    rw [h, Bool.true_and]
    congr 1
    exact decide_eq_decide.2 (by omega)
  | succ m ih =>
    intro i hm h
    have hi : i < l.length := by omega
    have hr : rd l (i : Int) = l[i] := rd_nat hi
    by_cases hx : l[i] < 0
    · refine Ev.step (f := fun _ => some (connS l)) (fun k => ?_) Ev.some
      rw [graph_Connected.l0, if_pos (by omega), if_pos (by omega), if_pos (by omega), hr, if_pos hx]
      unfold connS
      have : (l.all fun x => decide (0 ≤ x)) = false := by
        rw [List.all_eq_false]
        exact ⟨l[i], List.getElem_mem hi, by simp; omega⟩
      rw [this, Bool.false_and]
    · refine Ev.step (fun k => ?_) (ih (i + 1) (by omega) (by rw [take_all hi, h, Bool.true_and]; exact decide_eq_true (by omega)))
      rw [graph_Connected.l0, if_pos (by omega), if_pos (by omega), if_pos (by omega), hr, if_neg hx, wrap_id (by omega) (by omega)]
      rfl
theorem take_fold {l : List Int} {i : Nat} (h : i < l.length) : (l.take (i + 1)).foldl (fun m x => if m < x then x else m) (-1) = mx ((l.take i).foldl (fun m x => if m < x then x else m) (-1)) l[i] := by
  rw [List.take_succ_eq_append_getElem h, List.foldl_append]
  rfl
theorem ecc_l0 (l : List Int) (hl : l.length ≤ 1000) : ∀ m i, m + i = l.length →
    Ev (fun k => graph_Eccentricity.l0 k ((l.take i).foldl (fun m x => if m < x then x else m) (-1)) l (l.length : Int) (i : Int)) (maxS l) := by
  intro m
  induction m with
  | zero =>
    intro i hm
    refine Ev.step (f := fun _ => some (maxS l)) (fun k => ?_) Ev.some
    rw [graph_Eccentricity.l0, if_neg (by omega), List.take_of_length_le (by omega)]
    rfl
  | succ m ih =>
    intro i hm
    have hi : i < l.length := by omega
    have hr : rd l (i : Int) = l[i] := rd_nat hi
    refine Ev.step (fun k => ?_) (ih (i + 1) (by omega))
    rw [graph_Eccentricity.l0, if_pos (by omega), if_pos (by omega), if_pos (by omega), hr, ← take_fold hi, wrap_id (by omega) (by omega)]
    rfl
/-- The greatest number, or -1 if one is negative. -/
def greatS (l : List Int) : Int := if (l.all fun x => decide (0 ≤ x)) = true then maxS l else -1
theorem great_l0 (l : List Int) (hl : l.length ≤ 1000) : ∀ m i, m + i = l.length → ((l.take i).all fun x => decide (0 ≤ x)) = true →
    Ev (fun k => selfstabref01_greatest.l0 k l ((l.take i).foldl (fun m x => if m < x then x else m) (-1)) (i : Int)) (greatS l) := by
  intro m
  induction m with
  | zero =>
    intro i hm h
    refine Ev.step (f := fun _ => some (greatS l)) (fun k => ?_) Ev.some
    rw [selfstabref01_greatest.l0, if_neg (by omega)]
    rw [List.take_of_length_le (by omega)] at h ⊢
    unfold greatS
    rw [if_pos h]
    rfl
  | succ m ih =>
    intro i hm h
    have hi : i < l.length := by omega
    have hr : rd l (i : Int) = l[i] := rd_nat hi
    by_cases hx : l[i] < 0
    · refine Ev.step (f := fun _ => some (greatS l)) (fun k => ?_) Ev.some
      rw [selfstabref01_greatest.l0, if_pos (by omega), if_pos (by omega), hr, if_pos hx]
      unfold greatS
      rw [if_neg]
      rw [List.all_eq_true]
      intro hall
      have := hall _ (List.getElem_mem hi)
      simp only [decide_eq_true_eq] at this
      omega
    · refine Ev.step (fun k => ?_) (ih (i + 1) (by omega) (by rw [take_all hi, h, Bool.true_and]; exact decide_eq_true (by omega)))
      rw [selfstabref01_greatest.l0, if_pos (by omega), if_pos (by omega), hr, if_neg hx, ← take_fold hi, wrap_id (by omega) (by omega)]
      rfl
theorem distS_len (ids : List Int) (p : List (List S60)) (a : Int) : (distS ids p a).length ≤ 24 := by
  unfold distS
  split
  · rename_i h
    have := valid_size h.1
    rw [distL_len]
    omega
  · simp
theorem great_ev (l : List Int) (hl : l.length ≤ 1000) : Ev (fun k => selfstabref01_greatest.f k l) (greatS l) := great_l0 l hl l.length 0 (by omega) rfl
theorem fold_ge (l : List Int) : ∀ a : Int, a ≤ l.foldl (fun m x => if m < x then x else m) a ∧ ∀ x ∈ l, x ≤ l.foldl (fun m x => if m < x then x else m) a := by
  induction l with
  | nil => exact fun a => ⟨Int.le_refl _, fun x hx => by cases hx⟩
  | cons y r ih =>
    intro a
    obtain ⟨h1, h2⟩ := ih (if a < y then y else a)
    have h3 : a ≤ (if a < y then y else a) ∧ y ≤ (if a < y then y else a) := by split <;> omega
    simp only [List.foldl_cons]
    refine ⟨by omega, fun x hx => ?_⟩
    rcases List.mem_cons.1 hx with rfl | hx
    · omega
    · exact h2 x hx
theorem greatS_pos {l : List Int} : decide (greatS l ≥ 0) = connS l := by
  unfold greatS connS
  cases hall : (l.all fun x => decide (0 ≤ x)) with
  | false => rfl
  | true =>
    rw [if_pos rfl, Bool.true_and]
    refine decide_eq_decide.2 ?_
    cases l with
    | nil => exact ⟨(fun h => absurd h (by decide)), (fun h => absurd h (by decide))⟩
    | cons y r =>
      have h1 := (fold_ge (y :: r) (-1)).2 y List.mem_cons_self
      have h2 := List.all_eq_true.1 hall y List.mem_cons_self
      simp only [decide_eq_true_eq] at h2
      unfold maxS
      exact ⟨fun _ => by simp, fun _ => by omega⟩
section
variable (ids : List Int) (p : List (List S60))
/-- Is the graph connected? -/
def connG : Bool := connS (distS ids p 0)
theorem conn_ev : Ev (fun k => graph_Connected.f k ids p) (connG ids p) :=
  Ev.bind (dist_ev ids p 0) (conn_l0 (distS ids p 0) (by have := distS_len ids p 0; omega) (distS ids p 0).length 0 (by omega) rfl)
theorem rconn_ev : Ev (fun k => selfstabref01_Connected.f k ids p) (connG ids p) := by
  unfold selfstabref01_Connected.f
  refine Ev.bind (rdist_ev ids p 0) (Ev.bind (great_ev _ (by have := distS_len ids p 0; omega)) (Ev.some' ?_))
  exact greatS_pos
variable {ids p}
theorem conn_valid (h : connG ids p = true) : (toG ids p).valid = true := by
  unfold connG connS distS at h
  cases hv : (toG ids p).valid with
  | true => rfl
  | false =>
    rw [if_neg (by rw [hv]; simp)] at h
    simp at h
/-- In a connected graph each node has a distance from node 0. -/
theorem conn_all (h : connG ids p = true) {v : Nat} (hv : v < p.length) : 0 ≤ distTo p 0 p.length v := by
  have hV := conn_valid h
  unfold connG connS at h
  rw [Bool.and_eq_true, List.all_eq_true] at h
  have h1 := h.1 (distTo p 0 p.length v) (by
    rw [show (0 : Int) = ((0 : Nat) : Int) from rfl, distS_yes hV (by omega)]
    exact List.mem_map.2 ⟨v, List.mem_range.2 hv, rfl⟩)
  simpa using h1
theorem ecc_ev (a : Int) : Ev (fun k => graph_Eccentricity.f k ids p a) (if connG ids p = true then maxS (distS ids p a) else -1) := by
  unfold graph_Eccentricity.f
  refine Ev.bind (conn_ev ids p) ?_
  cases connG ids p with
  | false => exact Ev.congr (f := fun _ => some (-1)) (fun k => by rw [if_neg (by simp)]) Ev.some
  | true =>
    rw [if_pos rfl]
    refine Ev.congr (fun k => by rw [if_pos rfl]) (Ev.bind (dist_ev ids p a) (ecc_l0 (distS ids p a) (by have := distS_len ids p a; omega) (distS ids p a).length 0 (by omega)))
theorem recc_ev (a : Int) : Ev (fun k => selfstabref01_Eccentricity.f k ids p a) (greatS (distS ids p a)) := by
  unfold selfstabref01_Eccentricity.f
  exact Ev.bind (rdist_ev ids p a) (Ev.bind (great_ev _ (by have := distS_len ids p a; omega)) Ev.some)
/-- Neighbours' distances differ by one at most. -/
theorem dist_near {a v u : Nat} (hv : v < p.length) (hu : u < p.length) (h : adjP p u v = true) (h0 : 0 ≤ distTo p a p.length u) : 0 ≤ distTo p a p.length v ∧ distTo p a p.length v ≤ distTo p a p.length u + 1 := by
  rcases distTo_cases (p := p) (a := a) p.length u with ⟨h1, _⟩ | ⟨e, he, h1, h2⟩
  · omega
  · have hn : nx p a e p.length v = true := by
      unfold nx
      rw [List.any_eq_true]
      exact ⟨u, List.mem_range.2 hu, by rw [h1, h]; rfl⟩
    have h3 : Rc p a (e + 2) v = true := by
      rw [Rc_succ]
      cases hr : Rc p a (e + 1) v with
      | true => rfl
      | false => rw [Fr_succ, hn, Bool.true_and, Bool.false_or, ← Rc_succ, hr]; rfl
    obtain ⟨e', he', h4⟩ := Rc_iff.1 h3
    by_cases hn' : e' < p.length
    · rw [distTo_of hn' h4, h2]; omega
    · rw [Fr_late (by omega) hv] at h4; cases h4
end
/-- In a connected graph each node has a distance from each other one. -/
theorem conn_from {ids : List Int} {p : List (List S60)} (h : connG ids p = true) {a : Nat} (ha : a < p.length) : ∀ v, v < p.length → 0 ≤ distTo p a p.length v := by
  have hV := conn_valid h
  have step : ∀ (e : Nat) (b w : Nat), w < p.length → Fr p b e w = true → 0 ≤ distTo p a p.length b → b < p.length → 0 ≤ distTo p a p.length w := by
    intro e
    induction e with
    | zero =>
      intro b w hw hf hb _
      have : w = b := of_decide_eq_true hf
      exact this ▸ hb
    | succ e ih =>
      intro b w hw hf hb hbl
      rw [Fr_succ, Bool.and_eq_true] at hf
      unfold nx at hf
      rw [List.any_eq_true] at hf
      obtain ⟨⟨u, hu, h1⟩, _⟩ := hf
      rw [Bool.and_eq_true] at h1
      have hul := List.mem_range.1 hu
      exact (dist_near hw hul h1.2 (ih b u hul h1.1 hb hbl)).1
  have back : ∀ (e : Nat) (w : Nat), w < p.length → Fr p 0 e w = true → 0 ≤ distTo p a p.length w → 0 ≤ distTo p a p.length 0 := by
    intro e
    induction e with
    | zero =>
      intro w hw hf hb
      have : w = 0 := of_decide_eq_true hf
      exact this ▸ hb
    | succ e ih =>
      intro w hw hf hb
      rw [Fr_succ, Bool.and_eq_true] at hf
      unfold nx at hf
      rw [List.any_eq_true] at hf
      obtain ⟨⟨u, hu, h1⟩, _⟩ := hf
      rw [Bool.and_eq_true] at h1
      have hul := List.mem_range.1 hu
      exact ih u hul h1.1 (dist_near hul hw (adj_sym hV hul hw h1.2) hb).1
  have ha0 : 0 ≤ distTo p a p.length a := by
    rw [distTo_of (e := 0) (by omega) (show Fr p a 0 a = true from decide_eq_true rfl)]
    omega
  have h0 : 0 ≤ distTo p a p.length 0 := by
    rcases distTo_cases (p := p) (a := 0) p.length a with ⟨h1, _⟩ | ⟨e, he, h1, _⟩
    · have := conn_all h ha; omega
    · exact back e a ha h1 ha0
  intro v hv
  rcases distTo_cases (p := p) (a := 0) p.length v with ⟨h1, _⟩ | ⟨e, he, h1, _⟩
  · have := conn_all h hv; omega
  · exact step e 0 v hv h1 h0 (by omega)
theorem greatS_conn {ids : List Int} {p : List (List S60)} (h : connG ids p = true) {a : Nat} (ha : a < p.length) : greatS (distS ids p (a : Int)) = maxS (distS ids p (a : Int)) := by
  unfold greatS
  rw [if_pos]
  rw [distS_yes (conn_valid h) ha, List.all_eq_true]
  intro x hx
  obtain ⟨v, hv, rfl⟩ := List.mem_map.1 hx
  exact decide_eq_true (conn_from h ha v (List.mem_range.1 hv))
end Go.Proofs.YthapikakneikbaaG
namespace Go.Proofs.YthapikakneikbaaG
open Go.RowKit Go.Proofs.YthapikakneikbaaW.PrintWords Go.Proofs.YthapikakneikbaaW.PrintLast Go.Proofs.YthapikakneikbaaW.PrintMore
attribute [local go_sem] max2_int min2_int max_two min_two max_three min_three max_four min_four   -- for this text's walks alone
set_option linter.unusedVariables false
set_option linter.unusedSimpArgs false
def graph_Size.l0 : Nat → Int → List (List (S60)) → Int → Int → List Int → List (List (S60)) → Option (Int × Int)
 | 0, _, _, _, _, _, _ => none
 | k + 1, x3, x10, x11, x12, x758000, x758001 => if x12 < x11 then (if 0 ≤ x12 then (if x12 < (x10.length : Int) then (graph_Size.l0 k (wrap64 (x3 + ((rd_L2 x10 x12).length : Int))) x10 x11 (wrap64 (x12 + 1)) x758000 x758001) else (none)) else (none)) else (some ((x758001.length : Int), wrap64 (Int.tdiv x3 2)))
def graph_Size.f (k : Nat) (l0_0 : List Int) (l0_1 : List (List (S60))) : Option (Int × Int) := (graph_Valid.f l0_0 l0_1).bind fun t758 => (if t758 = true then (graph_Size.l0 k 0 l0_1 (l0_1.length : Int) 0 l0_0 l0_1) else (some (0, 0)))
theorem graph_Size.mono_l : ∀ k, (∀ y0 y1 y2 y3 y4 y5, LeO (graph_Size.l0 k y0 y1 y2 y3 y4 y5) (graph_Size.l0 (k + 1) y0 y1 y2 y3 y4 y5))
 | 0 => fun _ _ _ _ _ _ r h => by simp [graph_Size.l0] at h
 | k + 1 => by
  have ih0 := graph_Size.mono_l k
  ·
   intro y0 y1 y2 y3 y4 y5
   unfold graph_Size.l0
   repeat' first
   | (with_reducible exact ih0 _ _ _ _ _ _)
   | (with_reducible exact LeO.refl _)
   | (with_reducible exact LeO.none _)
   | (with_reducible refine LeO.ite ?_ ?_)
   | (with_reducible refine LeO.bind ?_ (fun _ => ?_))
   | exact ih0 _ _ _ _ _ _
   | exact LeO.none _
   | refine LeO.ite ?_ ?_
   | refine LeO.bind ?_ (fun _ => ?_)
theorem graph_Size.mono : ∀ a0 a1 k, LeO (graph_Size.f k a0 a1) (graph_Size.f (k + 1) a0 a1) := by
 intro a0 a1 k
 have ih0 := graph_Size.mono_l k
 unfold graph_Size.f
 repeat' first
   | (with_reducible exact ih0 _ _ _ _ _ _)
   | (with_reducible exact LeO.refl _)
   | (with_reducible exact LeO.none _)
   | (with_reducible refine LeO.ite ?_ ?_)
   | (with_reducible refine LeO.bind ?_ (fun _ => ?_))
   | exact ih0 _ _ _ _ _ _
   | exact LeO.none _
   | refine LeO.ite ?_ ?_
   | refine LeO.bind ?_ (fun _ => ?_)
set_option maxHeartbeats 8000000 in
set_option maxRecDepth 100000 in
theorem graph_Size.calls (k : Nat) (A0_0 : Option Addr) (c0_0 : Nat) (l0_0 : List Int) (A0_1 : Option Addr) (c0_1 : Nat) (l0_1 : List (List (S60))) (r1 : Int) (r2 : Int) (w : World) (hr0_0 : Kd.C (Kd.int .i64) w A0_0 l0_0.length l0_0) (hc0_0 : l0_0.length ≤ c0_0) (hr0_1 : Kd.C (Kd.slice 60 k60) w A0_1 l0_1.length l0_1) (hc0_1 : l0_1.length ≤ c0_1) (h : graph_Size.f k l0_0 l0_1 = some (r1, r2)) :
  Calls Try.prog 128 #[.agg #[.slice A0_0 l0_0.length c0_0, .slice A0_1 l0_1.length c0_1]] w fun e w' => e = .returned (.tuple #[.int .i64 r1, .int .i64 r2]) ∧ Below w.heap.size w w' := by
 have hu27 := Try.underlying27
 have HR0_0 := Aside0.mk hr0_0
 have HC0_0 := Aside0.mk hc0_0
 clear hr0_0 hc0_0
 have HR0_1 := Aside0.mk hr0_1
 have HC0_1 := Aside0.mk hc0_1
 clear hr0_1 hc0_1
 have HB := Aside0.mk (Below.refl w.heap.size w)
 have H : ((graph_Valid.f l0_0 l0_1).bind fun t758 => (if t758 = true then (graph_Size.l0 k 0 l0_1 (l0_1.length : Int) 0 l0_0 l0_1) else (some (0, 0)))) = some (r1, r2) := h
 clear h
 replace H := Option.bind_eq_some_iff.mp H
 obtain ⟨t758, A20, H⟩ := H
 replace H : (if t758 = true then (graph_Size.l0 k 0 l0_1 (l0_1.length : Int) 0 l0_0 l0_1) else (some (0, 0))) = some (r1, r2) := H
 have A2 := Aside0.mk A20
 clear A20
 by_cases c3 : t758 = true
 ·
  subst c3
  have H1 : (graph_Size.l0 k 0 l0_1 (l0_1.length : Int) 0 l0_0 l0_1) = some (r1, r2) := by rw [if_pos rfl] at H; exact H
  clear H
  have H := H1
  clear H1
  have H' := Aside0.mk H
  clear H
  go_enter Try.func128, Try.ntmps128
  go_wp2_with (first | ((with_reducible refine gate_dst (N := 1) rfl ?_); refine box_event ?hg (N := 1) ?hd (cs := #[.slice A0_0 l0_0.length c0_0, .slice A0_1 l0_1.length c0_1]) (t := 27) ?hr ?_; (case hd => rfl); (case hg => rfl); (case hr => first | (go_simp; done) | (go_simp; rfl)); intro gb757 hg w4 hbox hb; have n0_ := Aside0.mk (below_step (by repeat (first | (with_reducible first | exact HB.out | apply below_alloc | apply pw_below_drewN | apply below_drew1) | exact HB.out)) hb); have n1_ := Aside0.mk (hbox); have n2_ := Aside0.mk ((by rw [hg]; exact (below_size (by repeat (first | (with_reducible first | exact HB.out | apply below_alloc | apply pw_below_drewN | apply below_drew1) | exact HB.out))) : w.heap.size ≤ gb757)); have n3_ := Aside0.mk ((by rw [hg]; exact (below_size (by repeat (first | (with_reducible first | exact HB.out | apply below_alloc | apply pw_below_drewN | apply below_drew1) | exact HB.out))) : w.heap.size ≤ gb757)); clear HB; have HB := n0_; have BK757 := n1_; have GW757 := n2_; have GE757 := n3_; clear n0_ n1_ n2_ n3_; clear hb hbox hg; have hcz5_0 : w4.cell? ⟨gb757, 0, none⟩ = some (.slice A0_0 l0_0.length c0_0) := (blk_cell BK757.out 0).trans rfl; have hcz5_1 : w4.cell? ⟨gb757, 1, none⟩ = some (.slice A0_1 l0_1.length c0_1) := (blk_cell BK757.out 1).trans rfl; have hfz5_0 := blk_frozen BK757.out 0; have hfz5_1 := blk_frozen BK757.out 1) | ((with_reducible refine gate_callee (f := 80) rfl ?_); refine goesL_ (some 7) rfl rfl Try.func80 (by kernel_rfl) rfl #[.agg #[.slice A0_0 l0_0.length c0_0, .slice A0_1 l0_1.length c0_1]] rfl (by (try simp only [List.map_toArray, List.map_cons, List.map_nil]); first | done | rfl | (simp only [List.length_drop, List.length_take]; rfl)) ?_; (with_reducible refine (graph_Valid.calls _ _ l0_0 _ _ l0_1 true _ ?side1 ?side2 ?side3 ?side4 A2.out).mono ?_); (case side1 => repeat (first | exact (Kd.C_below HR0_0.out HB.out) | (with_reducible refine Kd.C_alloc ?_ _) | (with_reducible refine Kd.C_drewN ?_ _) | (with_reducible refine Kd.C_drew ?_))); (case side2 => exact HC0_0.out); (case side3 => repeat (first | exact (Kd.C_below HR0_1.out HB.out) | (with_reducible refine Kd.C_alloc ?_ _) | (with_reducible refine Kd.C_drewN ?_ _) | (with_reducible refine Kd.C_drew ?_))); (case side4 => exact HC0_1.out); rintro e w6 ⟨rfl, hb⟩; refine ⟨_, rfl, ?_⟩; have n0_ := Aside0.mk (blk_below (g := gb757) (o := .cells #[.slice A0_0 l0_0.length c0_0, .slice A0_1 l0_1.length c0_1] 27 (0, 0)) (by (with_reducible repeat (first | refine blk_drewN ?_ _ | refine blk_drew ?_ | refine blk_alloc ?_ _)); exact BK757.out) hb); have n1_ := Aside0.mk (below_step (by repeat (first | (with_reducible first | exact HB.out | apply below_alloc | apply pw_below_drewN | apply below_drew1 | refine below_set ?_ GE757.out) | exact HB.out)) hb); clear BK757; clear HB; have BK757 := n0_; have HB := n1_; clear n0_ n1_; (try clear hb); (try clear hb2); (try clear hk); (try clear hi); have hcz7_0 : w6.cell? ⟨gb757, 0, none⟩ = some (.slice A0_0 l0_0.length c0_0) := (blk_cell BK757.out 0).trans rfl; have hcz7_1 : w6.cell? ⟨gb757, 1, none⟩ = some (.slice A0_1 l0_1.length c0_1) := (blk_cell BK757.out 1).trans rfl; have hfz7_0 := blk_frozen BK757.out 0; have hfz7_1 := blk_frozen BK757.out 1))
  go_loopg [3, 12] k (fun kq v3 v12 w' => ∃ (x3_1 : Int) (x12_1 : Int), v3 = .int .i64 x3_1 ∧ v12 = .int .i64 x12_1 ∧ Aside0 (graph_Size.l0 kq x3_1 l0_1 (l0_1.length : Int) x12_1 l0_0 l0_1 = some (r1, r2)) ∧ Aside0 (kq ≤ k) ∧ Aside0 (w'.heap[gb757]? = some (.cells #[(.slice A0_0 l0_0.length c0_0), (.slice A0_1 l0_1.length c0_1)] 27 (0, 0))) ∧ Aside0 (Below w.heap.size w w'))
  case atStart => exact ⟨(0), (0), (by first | rfl | (simp; done) | (simp [*]; done)), (by first | rfl | (simp; done) | (simp [*]; done)), H', ⟨Nat.le_refl _⟩, ⟨by (with_reducible repeat (first | refine blk_drewN ?_ _ | refine blk_drew ?_ | refine blk_alloc ?_ _)); exact BK757.out⟩, ⟨by repeat (first | (with_reducible first | exact HB.out | apply below_alloc | apply pw_below_drewN | apply below_drew1 | refine below_set ?_ GE757.out) | exact HB.out)⟩⟩
  case round =>
   clear H'
   try clear c1
   try clear p2
   try clear c3
   try clear hcz5_0
   try clear hcz5_1
   try clear hcz7_0
   try clear hcz7_1
   try clear hfz5_0
   try clear hfz5_1
   try clear hfz7_0
   try clear hfz7_1
   obtain ⟨x3_1, x12_1, rfl, rfl, HA, HK1, BK757, HB⟩ := hrel
   cases gk with
   | zero => exact absurd HA.out (by simp [graph_Size.l0])
   | succ k1 =>
    have H := HA.out
    clear HA
    simp only [graph_Size.l0] at H
    by_cases c8 : x12_1 < (l0_1.length : Int)
    ·
     rw [if_pos c8] at H
     have c8b0 : decide (x12_1 < (l0_1.length : Int)) = true := decide_eq_true c8
     clear c8
     by_cases c9 : 0 ≤ x12_1
     ·
      rw [if_pos c9] at H
      have c9b0 : decide (0 ≤ x12_1) = true := decide_eq_true c9
      clear c9
      by_cases c10 : x12_1 < (l0_1.length : Int)
      ·
       rw [if_pos c10] at H
       have c10b0 : decide (x12_1 < (l0_1.length : Int)) = true := decide_eq_true c10
       clear c10
       have H' := Aside0.mk H
       clear H
       have p759 : 0 ≤ (x12_1 : Int) := of_decide_eq_true (by first | (with_reducible assumption) | assumption)
       have q759 : x12_1 < (l0_1.length : Int) := of_decide_eq_true (by first | (with_reducible assumption) | assumption)
       obtain ⟨ad759, A759_0, c759_0, e759, hx759_0, hl759_0, hi759_0⟩ := at_L2 HR0_1.out x12_1 p759 q759
       cases e759
       replace hx759_0 := (HB.out.cell (World.block_lt_of_cell? w _ hx759_0)).trans hx759_0
       have HR759_0 := Aside0.mk hi759_0
       have HC759_0 := Aside0.mk hl759_0
       clear hi759_0 hl759_0
       replace p759 := eq_true p759
       replace q759 := eq_true q759
       go_wp2
       go_roundg k1
       case measure => have := HK1.out; omega
       case rel => exact ⟨(wrap64 (x3_1 + ((rd_L2 l0_1 x12_1).length : Int))), (wrap64 (x12_1 + 1)), (by first | rfl | (simp; done) | (simp [*]; done)), (by first | rfl | (simp; done) | (simp [*]; done)), H', ⟨by have := HK1.out; omega⟩, ⟨by (with_reducible repeat (first | refine blk_drewN ?_ _ | refine blk_drew ?_ | refine blk_alloc ?_ _)); exact BK757.out⟩, ⟨by repeat (first | (with_reducible first | exact HB.out | apply below_alloc | apply pw_below_drewN | apply below_drew1 | refine below_set ?_ GE757.out) | exact HB.out)⟩⟩
      ·
       rw [if_neg c10] at H
       exact absurd H (by simp)
     ·
      rw [if_neg c9] at H
      exact absurd H (by simp)
    ·
     rw [if_neg c8] at H
     have c8b0 : decide (x12_1 < (l0_1.length : Int)) = false := decide_eq_false c8
     clear c8
     simp only [Option.some.injEq, Prod.mk.injEq] at H
     obtain ⟨rfl, rfl⟩ := H
     have hcz11_0 : wr.cell? ⟨gb757, 0, none⟩ = some (.slice A0_0 l0_0.length c0_0) := (blk_cell BK757.out 0).trans rfl
     have hcz11_1 : wr.cell? ⟨gb757, 1, none⟩ = some (.slice A0_1 l0_1.length c0_1) := (blk_cell BK757.out 1).trans rfl
     have hfz11_0 := blk_frozen BK757.out 0
     have hfz11_1 := blk_frozen BK757.out 1
     go_wp2
     go_ret2
     exact ⟨by first | rfl | (simp [errW_none, errW_some] <;> rfl) | (simp [*, errW_none, errW_some] <;> rfl), by repeat (first | (with_reducible first | exact HB.out | apply below_alloc | apply pw_below_drewN | apply below_drew1 | refine below_set ?_ GE757.out) | exact HB.out)⟩
 ·
  replace c3 := Bool.eq_false_iff.mpr c3
  subst c3
  have H1 : (some (0, 0)) = some (r1, r2) := by rw [if_neg (show ¬ (false = true) by decide)] at H; exact H
  clear H
  have H := H1
  clear H1
  simp only [Option.some.injEq, Prod.mk.injEq] at H
  obtain ⟨rfl, rfl⟩ := H
  go_enter Try.func128, Try.ntmps128
  go_wp2_with (first | ((with_reducible refine gate_dst (N := 1) rfl ?_); refine box_event ?hg (N := 1) ?hd (cs := #[.slice A0_0 l0_0.length c0_0, .slice A0_1 l0_1.length c0_1]) (t := 27) ?hr ?_; (case hd => rfl); (case hg => rfl); (case hr => first | (go_simp; done) | (go_simp; rfl)); intro gb757 hg w12 hbox hb; have n0_ := Aside0.mk (below_step (by repeat (first | (with_reducible first | exact HB.out | apply below_alloc | apply pw_below_drewN | apply below_drew1) | exact HB.out)) hb); have n1_ := Aside0.mk (hbox); have n2_ := Aside0.mk ((by rw [hg]; exact (below_size (by repeat (first | (with_reducible first | exact HB.out | apply below_alloc | apply pw_below_drewN | apply below_drew1) | exact HB.out))) : w.heap.size ≤ gb757)); have n3_ := Aside0.mk ((by rw [hg]; exact (below_size (by repeat (first | (with_reducible first | exact HB.out | apply below_alloc | apply pw_below_drewN | apply below_drew1) | exact HB.out))) : w.heap.size ≤ gb757)); clear HB; have HB := n0_; have BK757 := n1_; have GW757 := n2_; have GE757 := n3_; clear n0_ n1_ n2_ n3_; clear hb hbox hg; have hcz13_0 : w12.cell? ⟨gb757, 0, none⟩ = some (.slice A0_0 l0_0.length c0_0) := (blk_cell BK757.out 0).trans rfl; have hcz13_1 : w12.cell? ⟨gb757, 1, none⟩ = some (.slice A0_1 l0_1.length c0_1) := (blk_cell BK757.out 1).trans rfl; have hfz13_0 := blk_frozen BK757.out 0; have hfz13_1 := blk_frozen BK757.out 1) | ((with_reducible refine gate_callee (f := 80) rfl ?_); refine goesL_ (some 7) rfl rfl Try.func80 (by kernel_rfl) rfl #[.agg #[.slice A0_0 l0_0.length c0_0, .slice A0_1 l0_1.length c0_1]] rfl (by (try simp only [List.map_toArray, List.map_cons, List.map_nil]); first | done | rfl | (simp only [List.length_drop, List.length_take]; rfl)) ?_; (with_reducible refine (graph_Valid.calls _ _ l0_0 _ _ l0_1 false _ ?side1 ?side2 ?side3 ?side4 A2.out).mono ?_); (case side1 => repeat (first | exact (Kd.C_below HR0_0.out HB.out) | (with_reducible refine Kd.C_alloc ?_ _) | (with_reducible refine Kd.C_drewN ?_ _) | (with_reducible refine Kd.C_drew ?_))); (case side2 => exact HC0_0.out); (case side3 => repeat (first | exact (Kd.C_below HR0_1.out HB.out) | (with_reducible refine Kd.C_alloc ?_ _) | (with_reducible refine Kd.C_drewN ?_ _) | (with_reducible refine Kd.C_drew ?_))); (case side4 => exact HC0_1.out); rintro e w14 ⟨rfl, hb⟩; refine ⟨_, rfl, ?_⟩; have n0_ := Aside0.mk (blk_below (g := gb757) (o := .cells #[.slice A0_0 l0_0.length c0_0, .slice A0_1 l0_1.length c0_1] 27 (0, 0)) (by (with_reducible repeat (first | refine blk_drewN ?_ _ | refine blk_drew ?_ | refine blk_alloc ?_ _)); exact BK757.out) hb); have n1_ := Aside0.mk (below_step (by repeat (first | (with_reducible first | exact HB.out | apply below_alloc | apply pw_below_drewN | apply below_drew1 | refine below_set ?_ GE757.out) | exact HB.out)) hb); clear BK757; clear HB; have BK757 := n0_; have HB := n1_; clear n0_ n1_; (try clear hb); (try clear hb2); (try clear hk); (try clear hi)))
  go_ret2
  exact ⟨by first | rfl | (simp [errW_none, errW_some] <;> rfl) | (simp [*, errW_none, errW_some] <;> rfl), by repeat (first | (with_reducible first | exact HB.out | apply below_alloc | apply pw_below_drewN | apply below_drew1 | refine below_set ?_ GE757.out) | exact HB.out)⟩
end Go.Proofs.YthapikakneikbaaG
namespace Go.Proofs.YthapikakneikbaaG
open Go.RowKit Go.Proofs.YthapikakneikbaaW.PrintWords Go.Proofs.YthapikakneikbaaW.PrintLast Go.Proofs.YthapikakneikbaaW.PrintMore
attribute [local go_sem] max2_int min2_int max_two min_two max_three min_three max_four min_four   -- for this text's walks alone
set_option linter.unusedVariables false
set_option linter.unusedSimpArgs false
def graph_Tree.f (k : Nat) (l0_0 : List Int) (l0_1 : List (List (S60))) : Option (Bool) := (graph_Size.f k l0_0 l0_1).bind fun bt761 => ((graph_Connected.f k l0_0 l0_1).bind fun t763 => (if t763 = true then (some (bt761.2 == (wrap64 (bt761.1 - 1)))) else (some false)))
theorem graph_Tree.mono : ∀ a0 a1 k, LeO (graph_Tree.f k a0 a1) (graph_Tree.f (k + 1) a0 a1) := by
 intro a0 a1 k
 unfold graph_Tree.f
 repeat' first
   | (with_reducible exact graph_Connected.mono _ _ _)
   | (with_reducible exact graph_Size.mono _ _ _)
   | (with_reducible exact LeO.refl _)
   | (with_reducible exact LeO.none _)
   | (with_reducible refine LeO.ite ?_ ?_)
   | (with_reducible refine LeO.bind ?_ (fun _ => ?_))
   | exact graph_Connected.mono _ _ _
   | exact graph_Size.mono _ _ _
   | exact LeO.none _
   | refine LeO.ite ?_ ?_
   | refine LeO.bind ?_ (fun _ => ?_)
set_option maxHeartbeats 8000000 in
set_option maxRecDepth 100000 in
theorem graph_Tree.calls (k : Nat) (A0_0 : Option Addr) (c0_0 : Nat) (l0_0 : List Int) (A0_1 : Option Addr) (c0_1 : Nat) (l0_1 : List (List (S60))) (r : Bool) (w : World) (hr0_0 : Kd.C (Kd.int .i64) w A0_0 l0_0.length l0_0) (hc0_0 : l0_0.length ≤ c0_0) (hr0_1 : Kd.C (Kd.slice 60 k60) w A0_1 l0_1.length l0_1) (hc0_1 : l0_1.length ≤ c0_1) (h : graph_Tree.f k l0_0 l0_1 = some r) :
  Calls Try.prog 104 #[.agg #[.slice A0_0 l0_0.length c0_0, .slice A0_1 l0_1.length c0_1]] w fun e w' => e = .returned (.bool r) ∧ Below w.heap.size w w' := by
 have hu27 := Try.underlying27
 have HR0_0 := Aside0.mk hr0_0
 have HC0_0 := Aside0.mk hc0_0
 clear hr0_0 hc0_0
 have HR0_1 := Aside0.mk hr0_1
 have HC0_1 := Aside0.mk hc0_1
 clear hr0_1 hc0_1
 have HB := Aside0.mk (Below.refl w.heap.size w)
 have H : ((graph_Size.f k l0_0 l0_1).bind fun bt761 => ((graph_Connected.f k l0_0 l0_1).bind fun t763 => (if t763 = true then (some (bt761.2 == (wrap64 (bt761.1 - 1)))) else (some false)))) = some r := h
 clear h
 replace H := Option.bind_eq_some_iff.mp H
 obtain ⟨⟨t761, t762⟩, A20, H⟩ := H
 replace H : ((graph_Connected.f k l0_0 l0_1).bind fun t763 => (if t763 = true then (some (t762 == (wrap64 (t761 - 1)))) else (some false))) = some r := H
 have A2 := Aside0.mk A20
 clear A20
 replace H := Option.bind_eq_some_iff.mp H
 obtain ⟨t763, A30, H⟩ := H
 replace H : (if t763 = true then (some (t762 == (wrap64 (t761 - 1)))) else (some false)) = some r := H
 have A3 := Aside0.mk A30
 clear A30
 by_cases c4 : t763 = true
 ·
  subst c4
  have H1 : (some (t762 == (wrap64 (t761 - 1)))) = some r := by rw [if_pos rfl] at H; exact H
  clear H
  have H := H1
  clear H1
  obtain rfl := Option.some.inj H
  go_enter Try.func104, Try.ntmps104
  go_wp2_with (first | ((with_reducible refine gate_dst (N := 1) rfl ?_); refine box_event ?hg (N := 1) ?hd (cs := #[.slice A0_0 l0_0.length c0_0, .slice A0_1 l0_1.length c0_1]) (t := 27) ?hr ?_; (case hd => rfl); (case hg => rfl); (case hr => first | (go_simp; done) | (go_simp; rfl)); intro gb760 hg w5 hbox hb; have n0_ := Aside0.mk (below_step (by repeat (first | (with_reducible first | exact HB.out | apply below_alloc | apply pw_below_drewN | apply below_drew1) | exact HB.out)) hb); have n1_ := Aside0.mk (hbox); have n2_ := Aside0.mk ((by rw [hg]; exact (below_size (by repeat (first | (with_reducible first | exact HB.out | apply below_alloc | apply pw_below_drewN | apply below_drew1) | exact HB.out))) : w.heap.size ≤ gb760)); have n3_ := Aside0.mk ((by rw [hg]; exact (below_size (by repeat (first | (with_reducible first | exact HB.out | apply below_alloc | apply pw_below_drewN | apply below_drew1) | exact HB.out))) : w.heap.size ≤ gb760)); clear HB; have HB := n0_; have BK760 := n1_; have GW760 := n2_; have GE760 := n3_; clear n0_ n1_ n2_ n3_; clear hb hbox hg; have hcz6_0 : w5.cell? ⟨gb760, 0, none⟩ = some (.slice A0_0 l0_0.length c0_0) := (blk_cell BK760.out 0).trans rfl; have hcz6_1 : w5.cell? ⟨gb760, 1, none⟩ = some (.slice A0_1 l0_1.length c0_1) := (blk_cell BK760.out 1).trans rfl; have hfz6_0 := blk_frozen BK760.out 0; have hfz6_1 := blk_frozen BK760.out 1) | ((with_reducible refine gate_callee (f := 128) rfl ?_); refine goesL_ (some 7) rfl rfl Try.func128 (by kernel_rfl) rfl #[.agg #[.slice A0_0 l0_0.length c0_0, .slice A0_1 l0_1.length c0_1]] rfl (by (try simp only [List.map_toArray, List.map_cons, List.map_nil]); first | done | rfl | (simp only [List.length_drop, List.length_take]; rfl)) ?_; (with_reducible refine (graph_Size.calls k _ _ l0_0 _ _ l0_1 t761 t762 _ ?side1 ?side2 ?side3 ?side4 A2.out).mono ?_); (case side1 => repeat (first | exact (Kd.C_below HR0_0.out HB.out) | (with_reducible refine Kd.C_alloc ?_ _) | (with_reducible refine Kd.C_drewN ?_ _) | (with_reducible refine Kd.C_drew ?_))); (case side2 => exact HC0_0.out); (case side3 => repeat (first | exact (Kd.C_below HR0_1.out HB.out) | (with_reducible refine Kd.C_alloc ?_ _) | (with_reducible refine Kd.C_drewN ?_ _) | (with_reducible refine Kd.C_drew ?_))); (case side4 => exact HC0_1.out); rintro e w7 ⟨rfl, hb⟩; refine ⟨_, rfl, ?_⟩; have n0_ := Aside0.mk (blk_below (g := gb760) (o := .cells #[.slice A0_0 l0_0.length c0_0, .slice A0_1 l0_1.length c0_1] 27 (0, 0)) (by (with_reducible repeat (first | refine blk_drewN ?_ _ | refine blk_drew ?_ | refine blk_alloc ?_ _)); exact BK760.out) hb); have n1_ := Aside0.mk (below_step (by repeat (first | (with_reducible first | exact HB.out | apply below_alloc | apply pw_below_drewN | apply below_drew1 | refine below_set ?_ GE760.out) | exact HB.out)) hb); clear BK760; clear HB; have BK760 := n0_; have HB := n1_; clear n0_ n1_; (try clear hb); (try clear hb2); (try clear hk); (try clear hi); have hcz8_0 : w7.cell? ⟨gb760, 0, none⟩ = some (.slice A0_0 l0_0.length c0_0) := (blk_cell BK760.out 0).trans rfl; have hcz8_1 : w7.cell? ⟨gb760, 1, none⟩ = some (.slice A0_1 l0_1.length c0_1) := (blk_cell BK760.out 1).trans rfl; have hfz8_0 := blk_frozen BK760.out 0; have hfz8_1 := blk_frozen BK760.out 1) | ((with_reducible refine gate_callee (f := 87) rfl ?_); refine goesL_ (some 11) rfl rfl Try.func87 (by kernel_rfl) rfl #[.agg #[.slice A0_0 l0_0.length c0_0, .slice A0_1 l0_1.length c0_1]] rfl (by (try simp only [List.map_toArray, List.map_cons, List.map_nil]); first | done | rfl | (simp only [List.length_drop, List.length_take]; rfl)) ?_; (with_reducible refine (graph_Connected.calls k _ _ l0_0 _ _ l0_1 true _ ?side1 ?side2 ?side3 ?side4 A3.out).mono ?_); (case side1 => repeat (first | exact (Kd.C_below HR0_0.out HB.out) | (with_reducible refine Kd.C_alloc ?_ _) | (with_reducible refine Kd.C_drewN ?_ _) | (with_reducible refine Kd.C_drew ?_))); (case side2 => exact HC0_0.out); (case side3 => repeat (first | exact (Kd.C_below HR0_1.out HB.out) | (with_reducible refine Kd.C_alloc ?_ _) | (with_reducible refine Kd.C_drewN ?_ _) | (with_reducible refine Kd.C_drew ?_))); (case side4 => exact HC0_1.out); rintro e w9 ⟨rfl, hb⟩; refine ⟨_, rfl, ?_⟩; have n0_ := Aside0.mk (blk_below (g := gb760) (o := .cells #[.slice A0_0 l0_0.length c0_0, .slice A0_1 l0_1.length c0_1] 27 (0, 0)) (by (with_reducible repeat (first | refine blk_drewN ?_ _ | refine blk_drew ?_ | refine blk_alloc ?_ _)); exact BK760.out) hb); have n1_ := Aside0.mk (below_step (by repeat (first | (with_reducible first | exact HB.out | apply below_alloc | apply pw_below_drewN | apply below_drew1 | refine below_set ?_ GE760.out) | exact HB.out)) hb); clear BK760; clear HB; have BK760 := n0_; have HB := n1_; clear n0_ n1_; (try clear hb); (try clear hb2); (try clear hk); (try clear hi)))
  go_ret
  exact ⟨by first | rfl | (simp [errW_none, errW_some] <;> rfl) | (simp [*, errW_none, errW_some] <;> rfl), by repeat (first | (with_reducible first | exact HB.out | apply below_alloc | apply pw_below_drewN | apply below_drew1 | refine below_set ?_ GE760.out) | exact HB.out)⟩
 ·
  replace c4 := Bool.eq_false_iff.mpr c4
  subst c4
  have H1 : (some false) = some r := by rw [if_neg (show ¬ (false = true) by decide)] at H; exact H
  clear H
  have H := H1
  clear H1
  obtain rfl := Option.some.inj H
  go_enter Try.func104, Try.ntmps104
  go_wp2_with (first | ((with_reducible refine gate_dst (N := 1) rfl ?_); refine box_event ?hg (N := 1) ?hd (cs := #[.slice A0_0 l0_0.length c0_0, .slice A0_1 l0_1.length c0_1]) (t := 27) ?hr ?_; (case hd => rfl); (case hg => rfl); (case hr => first | (go_simp; done) | (go_simp; rfl)); intro gb760 hg w10 hbox hb; have n0_ := Aside0.mk (below_step (by repeat (first | (with_reducible first | exact HB.out | apply below_alloc | apply pw_below_drewN | apply below_drew1) | exact HB.out)) hb); have n1_ := Aside0.mk (hbox); have n2_ := Aside0.mk ((by rw [hg]; exact (below_size (by repeat (first | (with_reducible first | exact HB.out | apply below_alloc | apply pw_below_drewN | apply below_drew1) | exact HB.out))) : w.heap.size ≤ gb760)); have n3_ := Aside0.mk ((by rw [hg]; exact (below_size (by repeat (first | (with_reducible first | exact HB.out | apply below_alloc | apply pw_below_drewN | apply below_drew1) | exact HB.out))) : w.heap.size ≤ gb760)); clear HB; have HB := n0_; have BK760 := n1_; have GW760 := n2_; have GE760 := n3_; clear n0_ n1_ n2_ n3_; clear hb hbox hg; have hcz11_0 : w10.cell? ⟨gb760, 0, none⟩ = some (.slice A0_0 l0_0.length c0_0) := (blk_cell BK760.out 0).trans rfl; have hcz11_1 : w10.cell? ⟨gb760, 1, none⟩ = some (.slice A0_1 l0_1.length c0_1) := (blk_cell BK760.out 1).trans rfl; have hfz11_0 := blk_frozen BK760.out 0; have hfz11_1 := blk_frozen BK760.out 1) | ((with_reducible refine gate_callee (f := 128) rfl ?_); refine goesL_ (some 7) rfl rfl Try.func128 (by kernel_rfl) rfl #[.agg #[.slice A0_0 l0_0.length c0_0, .slice A0_1 l0_1.length c0_1]] rfl (by (try simp only [List.map_toArray, List.map_cons, List.map_nil]); first | done | rfl | (simp only [List.length_drop, List.length_take]; rfl)) ?_; (with_reducible refine (graph_Size.calls k _ _ l0_0 _ _ l0_1 t761 t762 _ ?side1 ?side2 ?side3 ?side4 A2.out).mono ?_); (case side1 => repeat (first | exact (Kd.C_below HR0_0.out HB.out) | (with_reducible refine Kd.C_alloc ?_ _) | (with_reducible refine Kd.C_drewN ?_ _) | (with_reducible refine Kd.C_drew ?_))); (case side2 => exact HC0_0.out); (case side3 => repeat (first | exact (Kd.C_below HR0_1.out HB.out) | (with_reducible refine Kd.C_alloc ?_ _) | (with_reducible refine Kd.C_drewN ?_ _) | (with_reducible refine Kd.C_drew ?_))); (case side4 => exact HC0_1.out); rintro e w12 ⟨rfl, hb⟩; refine ⟨_, rfl, ?_⟩; have n0_ := Aside0.mk (blk_below (g := gb760) (o := .cells #[.slice A0_0 l0_0.length c0_0, .slice A0_1 l0_1.length c0_1] 27 (0, 0)) (by (with_reducible repeat (first | refine blk_drewN ?_ _ | refine blk_drew ?_ | refine blk_alloc ?_ _)); exact BK760.out) hb); have n1_ := Aside0.mk (below_step (by repeat (first | (with_reducible first | exact HB.out | apply below_alloc | apply pw_below_drewN | apply below_drew1 | refine below_set ?_ GE760.out) | exact HB.out)) hb); clear BK760; clear HB; have BK760 := n0_; have HB := n1_; clear n0_ n1_; (try clear hb); (try clear hb2); (try clear hk); (try clear hi); have hcz13_0 : w12.cell? ⟨gb760, 0, none⟩ = some (.slice A0_0 l0_0.length c0_0) := (blk_cell BK760.out 0).trans rfl; have hcz13_1 : w12.cell? ⟨gb760, 1, none⟩ = some (.slice A0_1 l0_1.length c0_1) := (blk_cell BK760.out 1).trans rfl; have hfz13_0 := blk_frozen BK760.out 0; have hfz13_1 := blk_frozen BK760.out 1) | ((with_reducible refine gate_callee (f := 87) rfl ?_); refine goesL_ (some 11) rfl rfl Try.func87 (by kernel_rfl) rfl #[.agg #[.slice A0_0 l0_0.length c0_0, .slice A0_1 l0_1.length c0_1]] rfl (by (try simp only [List.map_toArray, List.map_cons, List.map_nil]); first | done | rfl | (simp only [List.length_drop, List.length_take]; rfl)) ?_; (with_reducible refine (graph_Connected.calls k _ _ l0_0 _ _ l0_1 false _ ?side1 ?side2 ?side3 ?side4 A3.out).mono ?_); (case side1 => repeat (first | exact (Kd.C_below HR0_0.out HB.out) | (with_reducible refine Kd.C_alloc ?_ _) | (with_reducible refine Kd.C_drewN ?_ _) | (with_reducible refine Kd.C_drew ?_))); (case side2 => exact HC0_0.out); (case side3 => repeat (first | exact (Kd.C_below HR0_1.out HB.out) | (with_reducible refine Kd.C_alloc ?_ _) | (with_reducible refine Kd.C_drewN ?_ _) | (with_reducible refine Kd.C_drew ?_))); (case side4 => exact HC0_1.out); rintro e w14 ⟨rfl, hb⟩; refine ⟨_, rfl, ?_⟩; have n0_ := Aside0.mk (blk_below (g := gb760) (o := .cells #[.slice A0_0 l0_0.length c0_0, .slice A0_1 l0_1.length c0_1] 27 (0, 0)) (by (with_reducible repeat (first | refine blk_drewN ?_ _ | refine blk_drew ?_ | refine blk_alloc ?_ _)); exact BK760.out) hb); have n1_ := Aside0.mk (below_step (by repeat (first | (with_reducible first | exact HB.out | apply below_alloc | apply pw_below_drewN | apply below_drew1 | refine below_set ?_ GE760.out) | exact HB.out)) hb); clear BK760; clear HB; have BK760 := n0_; have HB := n1_; clear n0_ n1_; (try clear hb); (try clear hb2); (try clear hk); (try clear hi)))
  go_ret
  exact ⟨by first | rfl | (simp [errW_none, errW_some] <;> rfl) | (simp [*, errW_none, errW_some] <;> rfl), by repeat (first | (with_reducible first | exact HB.out | apply below_alloc | apply pw_below_drewN | apply below_drew1 | refine below_set ?_ GE760.out) | exact HB.out)⟩
end Go.Proofs.YthapikakneikbaaG
namespace Go.Proofs.YthapikakneikbaaG
open Go.RowKit Go.Proofs.YthapikakneikbaaW.PrintWords Go.Proofs.YthapikakneikbaaW.PrintLast Go.Proofs.YthapikakneikbaaW.PrintMore
attribute [local go_sem] max2_int min2_int max_two min_two max_three min_three max_four min_four   -- for this text's walks alone
set_option linter.unusedVariables false
set_option linter.unusedSimpArgs false
def selfstabref01_Size.l0 : Nat → Int → Int → List Int → List (List (S60)) → Option (Int × Int)
 | 0, _, _, _, _ => none
 | k + 1, x4, x5, x849000, x849001 => if x5 < (x849001.length : Int) then (if 0 ≤ x5 then (selfstabref01_Size.l0 k (wrap64 (x4 + ((rd_L2 x849001 x5).length : Int))) (wrap64 (x5 + 1)) x849000 x849001) else (none)) else (some ((x849001.length : Int), wrap64 (Int.tdiv x4 2)))
def selfstabref01_Size.f (k : Nat) (l0_0 : List Int) (l0_1 : List (List (S60))) : Option (Int × Int) := (selfstabref01_Valid.f l0_0 l0_1).bind fun t849 => (if t849 = true then (selfstabref01_Size.l0 k 0 0 l0_0 l0_1) else (some (0, 0)))
theorem selfstabref01_Size.mono_l : ∀ k, (∀ y0 y1 y2 y3, LeO (selfstabref01_Size.l0 k y0 y1 y2 y3) (selfstabref01_Size.l0 (k + 1) y0 y1 y2 y3))
 | 0 => fun _ _ _ _ r h => by simp [selfstabref01_Size.l0] at h
 | k + 1 => by
  have ih0 := selfstabref01_Size.mono_l k
  ·
   intro y0 y1 y2 y3
   unfold selfstabref01_Size.l0
   repeat' first
   | (with_reducible exact ih0 _ _ _ _)
   | (with_reducible exact LeO.refl _)
   | (with_reducible exact LeO.none _)
   | (with_reducible refine LeO.ite ?_ ?_)
   | (with_reducible refine LeO.bind ?_ (fun _ => ?_))
   | exact ih0 _ _ _ _
   | exact LeO.none _
   | refine LeO.ite ?_ ?_
   | refine LeO.bind ?_ (fun _ => ?_)
theorem selfstabref01_Size.mono : ∀ a0 a1 k, LeO (selfstabref01_Size.f k a0 a1) (selfstabref01_Size.f (k + 1) a0 a1) := by
 intro a0 a1 k
 have ih0 := selfstabref01_Size.mono_l k
 unfold selfstabref01_Size.f
 repeat' first
   | (with_reducible exact ih0 _ _ _ _)
   | (with_reducible exact LeO.refl _)
   | (with_reducible exact LeO.none _)
   | (with_reducible refine LeO.ite ?_ ?_)
   | (with_reducible refine LeO.bind ?_ (fun _ => ?_))
   | exact ih0 _ _ _ _
   | exact LeO.none _
   | refine LeO.ite ?_ ?_
   | refine LeO.bind ?_ (fun _ => ?_)
set_option maxHeartbeats 8000000 in
set_option maxRecDepth 100000 in
theorem selfstabref01_Size.calls (k : Nat) (A0_0 : Option Addr) (c0_0 : Nat) (l0_0 : List Int) (A0_1 : Option Addr) (c0_1 : Nat) (l0_1 : List (List (S60))) (r1 : Int) (r2 : Int) (w : World) (hr0_0 : Kd.C (Kd.int .i64) w A0_0 l0_0.length l0_0) (hc0_0 : l0_0.length ≤ c0_0) (hr0_1 : Kd.C (Kd.slice 60 k60) w A0_1 l0_1.length l0_1) (hc0_1 : l0_1.length ≤ c0_1) (h : selfstabref01_Size.f k l0_0 l0_1 = some (r1, r2)) :
  Calls Try.prog 129 #[.agg #[.slice A0_0 l0_0.length c0_0, .slice A0_1 l0_1.length c0_1]] w fun e w' => e = .returned (.tuple #[.int .i64 r1, .int .i64 r2]) ∧ Below w.heap.size w w' := by
 have hu27 := Try.underlying27
 have HR0_0 := Aside0.mk hr0_0
 have HC0_0 := Aside0.mk hc0_0
 clear hr0_0 hc0_0
 have HR0_1 := Aside0.mk hr0_1
 have HC0_1 := Aside0.mk hc0_1
 clear hr0_1 hc0_1
 have HB := Aside0.mk (Below.refl w.heap.size w)
 have H : ((selfstabref01_Valid.f l0_0 l0_1).bind fun t849 => (if t849 = true then (selfstabref01_Size.l0 k 0 0 l0_0 l0_1) else (some (0, 0)))) = some (r1, r2) := h
 clear h
 replace H := Option.bind_eq_some_iff.mp H
 obtain ⟨t849, A20, H⟩ := H
 replace H : (if t849 = true then (selfstabref01_Size.l0 k 0 0 l0_0 l0_1) else (some (0, 0))) = some (r1, r2) := H
 have A2 := Aside0.mk A20
 clear A20
 by_cases c3 : t849 = true
 ·
  subst c3
  have H1 : (selfstabref01_Size.l0 k 0 0 l0_0 l0_1) = some (r1, r2) := by rw [if_pos rfl] at H; exact H
  clear H
  have H := H1
  clear H1
  have H' := Aside0.mk H
  clear H
  go_enter Try.func129, Try.ntmps129
  go_wp2_with (first | ((with_reducible refine gate_dst (N := 1) rfl ?_); refine box_event ?hg (N := 1) ?hd (cs := #[.slice A0_0 l0_0.length c0_0, .slice A0_1 l0_1.length c0_1]) (t := 27) ?hr ?_; (case hd => rfl); (case hg => rfl); (case hr => first | (go_simp; done) | (go_simp; rfl)); intro gb848 hg w4 hbox hb; have n0_ := Aside0.mk (below_step (by repeat (first | (with_reducible first | exact HB.out | apply below_alloc | apply pw_below_drewN | apply below_drew1) | exact HB.out)) hb); have n1_ := Aside0.mk (hbox); have n2_ := Aside0.mk ((by rw [hg]; exact (below_size (by repeat (first | (with_reducible first | exact HB.out | apply below_alloc | apply pw_below_drewN | apply below_drew1) | exact HB.out))) : w.heap.size ≤ gb848)); have n3_ := Aside0.mk ((by rw [hg]; exact (below_size (by repeat (first | (with_reducible first | exact HB.out | apply below_alloc | apply pw_below_drewN | apply below_drew1) | exact HB.out))) : w.heap.size ≤ gb848)); clear HB; have HB := n0_; have BK848 := n1_; have GW848 := n2_; have GE848 := n3_; clear n0_ n1_ n2_ n3_; clear hb hbox hg; have hcz5_0 : w4.cell? ⟨gb848, 0, none⟩ = some (.slice A0_0 l0_0.length c0_0) := (blk_cell BK848.out 0).trans rfl; have hcz5_1 : w4.cell? ⟨gb848, 1, none⟩ = some (.slice A0_1 l0_1.length c0_1) := (blk_cell BK848.out 1).trans rfl; have hfz5_0 := blk_frozen BK848.out 0; have hfz5_1 := blk_frozen BK848.out 1) | ((with_reducible refine gate_callee (f := 75) rfl ?_); refine goesL_ (some 7) rfl rfl Try.func75 (by kernel_rfl) rfl #[.agg #[.slice A0_0 l0_0.length c0_0, .slice A0_1 l0_1.length c0_1]] rfl (by (try simp only [List.map_toArray, List.map_cons, List.map_nil]); first | done | rfl | (simp only [List.length_drop, List.length_take]; rfl)) ?_; (with_reducible refine (selfstabref01_Valid.calls _ _ l0_0 _ _ l0_1 true _ ?side1 ?side2 ?side3 ?side4 A2.out).mono ?_); (case side1 => repeat (first | exact (Kd.C_below HR0_0.out HB.out) | (with_reducible refine Kd.C_alloc ?_ _) | (with_reducible refine Kd.C_drewN ?_ _) | (with_reducible refine Kd.C_drew ?_))); (case side2 => exact HC0_0.out); (case side3 => repeat (first | exact (Kd.C_below HR0_1.out HB.out) | (with_reducible refine Kd.C_alloc ?_ _) | (with_reducible refine Kd.C_drewN ?_ _) | (with_reducible refine Kd.C_drew ?_))); (case side4 => exact HC0_1.out); rintro e w6 ⟨rfl, hb⟩; refine ⟨_, rfl, ?_⟩; have n0_ := Aside0.mk (blk_below (g := gb848) (o := .cells #[.slice A0_0 l0_0.length c0_0, .slice A0_1 l0_1.length c0_1] 27 (0, 0)) (by (with_reducible repeat (first | refine blk_drewN ?_ _ | refine blk_drew ?_ | refine blk_alloc ?_ _)); exact BK848.out) hb); have n1_ := Aside0.mk (below_step (by repeat (first | (with_reducible first | exact HB.out | apply below_alloc | apply pw_below_drewN | apply below_drew1 | refine below_set ?_ GE848.out) | exact HB.out)) hb); clear BK848; clear HB; have BK848 := n0_; have HB := n1_; clear n0_ n1_; (try clear hb); (try clear hb2); (try clear hk); (try clear hi)))
  go_loopg [4, 5] k (fun kq v4 v5 w' => ∃ (x4_1 : Int) (x5_1 : Int), v4 = .int .i64 x4_1 ∧ v5 = .int .i64 x5_1 ∧ Aside0 (selfstabref01_Size.l0 kq x4_1 x5_1 l0_0 l0_1 = some (r1, r2)) ∧ Aside0 (kq ≤ k) ∧ Aside0 (w'.heap[gb848]? = some (.cells #[(.slice A0_0 l0_0.length c0_0), (.slice A0_1 l0_1.length c0_1)] 27 (0, 0))) ∧ Aside0 (Below w.heap.size w w'))
  case atStart => exact ⟨(0), (0), (by first | rfl | (simp; done) | (simp [*]; done)), (by first | rfl | (simp; done) | (simp [*]; done)), H', ⟨Nat.le_refl _⟩, ⟨by (with_reducible repeat (first | refine blk_drewN ?_ _ | refine blk_drew ?_ | refine blk_alloc ?_ _)); exact BK848.out⟩, ⟨by repeat (first | (with_reducible first | exact HB.out | apply below_alloc | apply pw_below_drewN | apply below_drew1 | refine below_set ?_ GE848.out) | exact HB.out)⟩⟩
  case round =>
   clear H'
   try clear c1
   try clear p2
   try clear c3
   try clear hcz5_0
   try clear hcz5_1
   try clear hfz5_0
   try clear hfz5_1
   obtain ⟨x4_1, x5_1, rfl, rfl, HA, HK1, BK848, HB⟩ := hrel
   cases gk with
   | zero => exact absurd HA.out (by simp [selfstabref01_Size.l0])
   | succ k1 =>
    have H := HA.out
    clear HA
    simp only [selfstabref01_Size.l0] at H
    by_cases c7 : x5_1 < (l0_1.length : Int)
    ·
     rw [if_pos c7] at H
     have c7b0 : decide (x5_1 < (l0_1.length : Int)) = true := decide_eq_true c7
     clear c7
     by_cases c8 : 0 ≤ x5_1
     ·
      rw [if_pos c8] at H
      have c8b0 : decide (0 ≤ x5_1) = true := decide_eq_true c8
      clear c8
      have H' := Aside0.mk H
      clear H
      have hcz9_0 : wr.cell? ⟨gb848, 0, none⟩ = some (.slice A0_0 l0_0.length c0_0) := (blk_cell BK848.out 0).trans rfl
      have hcz9_1 : wr.cell? ⟨gb848, 1, none⟩ = some (.slice A0_1 l0_1.length c0_1) := (blk_cell BK848.out 1).trans rfl
      have hfz9_0 := blk_frozen BK848.out 0
      have hfz9_1 := blk_frozen BK848.out 1
      have p850 : 0 ≤ (x5_1 : Int) := of_decide_eq_true (by first | (with_reducible assumption) | assumption)
      have q850 : x5_1 < (l0_1.length : Int) := of_decide_eq_true (by first | (with_reducible assumption) | assumption)
      obtain ⟨ad850, A850_0, c850_0, e850, hx850_0, hl850_0, hi850_0⟩ := at_L2 HR0_1.out x5_1 p850 q850
      cases e850
      replace hx850_0 := (HB.out.cell (World.block_lt_of_cell? w _ hx850_0)).trans hx850_0
      have HR850_0 := Aside0.mk hi850_0
      have HC850_0 := Aside0.mk hl850_0
      clear hi850_0 hl850_0
      replace p850 := eq_true p850
      replace q850 := eq_true q850
      go_wp2
      go_roundg k1
      case measure => have := HK1.out; omega
      case rel => exact ⟨(wrap64 (x4_1 + ((rd_L2 l0_1 x5_1).length : Int))), (wrap64 (x5_1 + 1)), (by first | rfl | (simp; done) | (simp [*]; done)), (by first | rfl | (simp; done) | (simp [*]; done)), H', ⟨by have := HK1.out; omega⟩, ⟨by (with_reducible repeat (first | refine blk_drewN ?_ _ | refine blk_drew ?_ | refine blk_alloc ?_ _)); exact BK848.out⟩, ⟨by repeat (first | (with_reducible first | exact HB.out | apply below_alloc | apply pw_below_drewN | apply below_drew1 | refine below_set ?_ GE848.out) | exact HB.out)⟩⟩
     ·
      rw [if_neg c8] at H
      exact absurd H (by simp)
    ·
     rw [if_neg c7] at H
     have c7b0 : decide (x5_1 < (l0_1.length : Int)) = false := decide_eq_false c7
     clear c7
     simp only [Option.some.injEq, Prod.mk.injEq] at H
     obtain ⟨rfl, rfl⟩ := H
     have hcz10_0 : wr.cell? ⟨gb848, 0, none⟩ = some (.slice A0_0 l0_0.length c0_0) := (blk_cell BK848.out 0).trans rfl
     have hcz10_1 : wr.cell? ⟨gb848, 1, none⟩ = some (.slice A0_1 l0_1.length c0_1) := (blk_cell BK848.out 1).trans rfl
     have hfz10_0 := blk_frozen BK848.out 0
     have hfz10_1 := blk_frozen BK848.out 1
     go_wp2
     go_ret2
     exact ⟨by first | rfl | (simp [errW_none, errW_some] <;> rfl) | (simp [*, errW_none, errW_some] <;> rfl), by repeat (first | (with_reducible first | exact HB.out | apply below_alloc | apply pw_below_drewN | apply below_drew1 | refine below_set ?_ GE848.out) | exact HB.out)⟩
 ·
  replace c3 := Bool.eq_false_iff.mpr c3
  subst c3
  have H1 : (some (0, 0)) = some (r1, r2) := by rw [if_neg (show ¬ (false = true) by decide)] at H; exact H
  clear H
  have H := H1
  clear H1
  simp only [Option.some.injEq, Prod.mk.injEq] at H
  obtain ⟨rfl, rfl⟩ := H
  go_enter Try.func129, Try.ntmps129
  go_wp2_with (first | ((with_reducible refine gate_dst (N := 1) rfl ?_); refine box_event ?hg (N := 1) ?hd (cs := #[.slice A0_0 l0_0.length c0_0, .slice A0_1 l0_1.length c0_1]) (t := 27) ?hr ?_; (case hd => rfl); (case hg => rfl); (case hr => first | (go_simp; done) | (go_simp; rfl)); intro gb848 hg w11 hbox hb; have n0_ := Aside0.mk (below_step (by repeat (first | (with_reducible first | exact HB.out | apply below_alloc | apply pw_below_drewN | apply below_drew1) | exact HB.out)) hb); have n1_ := Aside0.mk (hbox); have n2_ := Aside0.mk ((by rw [hg]; exact (below_size (by repeat (first | (with_reducible first | exact HB.out | apply below_alloc | apply pw_below_drewN | apply below_drew1) | exact HB.out))) : w.heap.size ≤ gb848)); have n3_ := Aside0.mk ((by rw [hg]; exact (below_size (by repeat (first | (with_reducible first | exact HB.out | apply below_alloc | apply pw_below_drewN | apply below_drew1) | exact HB.out))) : w.heap.size ≤ gb848)); clear HB; have HB := n0_; have BK848 := n1_; have GW848 := n2_; have GE848 := n3_; clear n0_ n1_ n2_ n3_; clear hb hbox hg; have hcz12_0 : w11.cell? ⟨gb848, 0, none⟩ = some (.slice A0_0 l0_0.length c0_0) := (blk_cell BK848.out 0).trans rfl; have hcz12_1 : w11.cell? ⟨gb848, 1, none⟩ = some (.slice A0_1 l0_1.length c0_1) := (blk_cell BK848.out 1).trans rfl; have hfz12_0 := blk_frozen BK848.out 0; have hfz12_1 := blk_frozen BK848.out 1) | ((with_reducible refine gate_callee (f := 75) rfl ?_); refine goesL_ (some 7) rfl rfl Try.func75 (by kernel_rfl) rfl #[.agg #[.slice A0_0 l0_0.length c0_0, .slice A0_1 l0_1.length c0_1]] rfl (by (try simp only [List.map_toArray, List.map_cons, List.map_nil]); first | done | rfl | (simp only [List.length_drop, List.length_take]; rfl)) ?_; (with_reducible refine (selfstabref01_Valid.calls _ _ l0_0 _ _ l0_1 false _ ?side1 ?side2 ?side3 ?side4 A2.out).mono ?_); (case side1 => repeat (first | exact (Kd.C_below HR0_0.out HB.out) | (with_reducible refine Kd.C_alloc ?_ _) | (with_reducible refine Kd.C_drewN ?_ _) | (with_reducible refine Kd.C_drew ?_))); (case side2 => exact HC0_0.out); (case side3 => repeat (first | exact (Kd.C_below HR0_1.out HB.out) | (with_reducible refine Kd.C_alloc ?_ _) | (with_reducible refine Kd.C_drewN ?_ _) | (with_reducible refine Kd.C_drew ?_))); (case side4 => exact HC0_1.out); rintro e w13 ⟨rfl, hb⟩; refine ⟨_, rfl, ?_⟩; have n0_ := Aside0.mk (blk_below (g := gb848) (o := .cells #[.slice A0_0 l0_0.length c0_0, .slice A0_1 l0_1.length c0_1] 27 (0, 0)) (by (with_reducible repeat (first | refine blk_drewN ?_ _ | refine blk_drew ?_ | refine blk_alloc ?_ _)); exact BK848.out) hb); have n1_ := Aside0.mk (below_step (by repeat (first | (with_reducible first | exact HB.out | apply below_alloc | apply pw_below_drewN | apply below_drew1 | refine below_set ?_ GE848.out) | exact HB.out)) hb); clear BK848; clear HB; have BK848 := n0_; have HB := n1_; clear n0_ n1_; (try clear hb); (try clear hb2); (try clear hk); (try clear hi)))
  go_ret2
  exact ⟨by first | rfl | (simp [errW_none, errW_some] <;> rfl) | (simp [*, errW_none, errW_some] <;> rfl), by repeat (first | (with_reducible first | exact HB.out | apply below_alloc | apply pw_below_drewN | apply below_drew1 | refine below_set ?_ GE848.out) | exact HB.out)⟩
end Go.Proofs.YthapikakneikbaaG
namespace Go.Proofs.YthapikakneikbaaG
open Go.RowKit Go.Proofs.YthapikakneikbaaW.PrintWords Go.Proofs.YthapikakneikbaaW.PrintLast Go.Proofs.YthapikakneikbaaW.PrintMore
attribute [local go_sem] max2_int min2_int max_two min_two max_three min_three max_four min_four   -- for this text's walks alone
set_option linter.unusedVariables false
set_option linter.unusedSimpArgs false
def selfstabref01_Tree.f (k : Nat) (l0_0 : List Int) (l0_1 : List (List (S60))) : Option (Bool) := (selfstabref01_Size.f k l0_0 l0_1).bind fun bt852 => ((selfstabref01_Connected.f k l0_0 l0_1).bind fun t854 => (if t854 = true then (some (bt852.2 == (wrap64 (bt852.1 - 1)))) else (some false)))
theorem selfstabref01_Tree.mono : ∀ a0 a1 k, LeO (selfstabref01_Tree.f k a0 a1) (selfstabref01_Tree.f (k + 1) a0 a1) := by
 intro a0 a1 k
 unfold selfstabref01_Tree.f
 repeat' first
   | (with_reducible exact selfstabref01_Connected.mono _ _ _)
   | (with_reducible exact selfstabref01_Size.mono _ _ _)
   | (with_reducible exact LeO.refl _)
   | (with_reducible exact LeO.none _)
   | (with_reducible refine LeO.ite ?_ ?_)
   | (with_reducible refine LeO.bind ?_ (fun _ => ?_))
   | exact selfstabref01_Connected.mono _ _ _
   | exact selfstabref01_Size.mono _ _ _
   | exact LeO.none _
   | refine LeO.ite ?_ ?_
   | refine LeO.bind ?_ (fun _ => ?_)
set_option maxHeartbeats 8000000 in
set_option maxRecDepth 100000 in
theorem selfstabref01_Tree.calls (k : Nat) (A0_0 : Option Addr) (c0_0 : Nat) (l0_0 : List Int) (A0_1 : Option Addr) (c0_1 : Nat) (l0_1 : List (List (S60))) (r : Bool) (w : World) (hr0_0 : Kd.C (Kd.int .i64) w A0_0 l0_0.length l0_0) (hc0_0 : l0_0.length ≤ c0_0) (hr0_1 : Kd.C (Kd.slice 60 k60) w A0_1 l0_1.length l0_1) (hc0_1 : l0_1.length ≤ c0_1) (h : selfstabref01_Tree.f k l0_0 l0_1 = some r) :
  Calls Try.prog 105 #[.agg #[.slice A0_0 l0_0.length c0_0, .slice A0_1 l0_1.length c0_1]] w fun e w' => e = .returned (.bool r) ∧ Below w.heap.size w w' := by
 have hu27 := Try.underlying27
 have HR0_0 := Aside0.mk hr0_0
 have HC0_0 := Aside0.mk hc0_0
 clear hr0_0 hc0_0
 have HR0_1 := Aside0.mk hr0_1
 have HC0_1 := Aside0.mk hc0_1
 clear hr0_1 hc0_1
 have HB := Aside0.mk (Below.refl w.heap.size w)
 have H : ((selfstabref01_Size.f k l0_0 l0_1).bind fun bt852 => ((selfstabref01_Connected.f k l0_0 l0_1).bind fun t854 => (if t854 = true then (some (bt852.2 == (wrap64 (bt852.1 - 1)))) else (some false)))) = some r := h
 clear h
 replace H := Option.bind_eq_some_iff.mp H
 obtain ⟨⟨t852, t853⟩, A20, H⟩ := H
 replace H : ((selfstabref01_Connected.f k l0_0 l0_1).bind fun t854 => (if t854 = true then (some (t853 == (wrap64 (t852 - 1)))) else (some false))) = some r := H
 have A2 := Aside0.mk A20
 clear A20
 replace H := Option.bind_eq_some_iff.mp H
 obtain ⟨t854, A30, H⟩ := H
 replace H : (if t854 = true then (some (t853 == (wrap64 (t852 - 1)))) else (some false)) = some r := H
 have A3 := Aside0.mk A30
 clear A30
 by_cases c4 : t854 = true
 ·
  subst c4
  have H1 : (some (t853 == (wrap64 (t852 - 1)))) = some r := by rw [if_pos rfl] at H; exact H
  clear H
  have H := H1
  clear H1
  obtain rfl := Option.some.inj H
  go_enter Try.func105, Try.ntmps105
  go_wp2_with (first | ((with_reducible refine gate_dst (N := 1) rfl ?_); refine box_event ?hg (N := 1) ?hd (cs := #[.slice A0_0 l0_0.length c0_0, .slice A0_1 l0_1.length c0_1]) (t := 27) ?hr ?_; (case hd => rfl); (case hg => rfl); (case hr => first | (go_simp; done) | (go_simp; rfl)); intro gb851 hg w5 hbox hb; have n0_ := Aside0.mk (below_step (by repeat (first | (with_reducible first | exact HB.out | apply below_alloc | apply pw_below_drewN | apply below_drew1) | exact HB.out)) hb); have n1_ := Aside0.mk (hbox); have n2_ := Aside0.mk ((by rw [hg]; exact (below_size (by repeat (first | (with_reducible first | exact HB.out | apply below_alloc | apply pw_below_drewN | apply below_drew1) | exact HB.out))) : w.heap.size ≤ gb851)); have n3_ := Aside0.mk ((by rw [hg]; exact (below_size (by repeat (first | (with_reducible first | exact HB.out | apply below_alloc | apply pw_below_drewN | apply below_drew1) | exact HB.out))) : w.heap.size ≤ gb851)); clear HB; have HB := n0_; have BK851 := n1_; have GW851 := n2_; have GE851 := n3_; clear n0_ n1_ n2_ n3_; clear hb hbox hg; have hcz6_0 : w5.cell? ⟨gb851, 0, none⟩ = some (.slice A0_0 l0_0.length c0_0) := (blk_cell BK851.out 0).trans rfl; have hcz6_1 : w5.cell? ⟨gb851, 1, none⟩ = some (.slice A0_1 l0_1.length c0_1) := (blk_cell BK851.out 1).trans rfl; have hfz6_0 := blk_frozen BK851.out 0; have hfz6_1 := blk_frozen BK851.out 1) | ((with_reducible refine gate_callee (f := 129) rfl ?_); refine goesL_ (some 7) rfl rfl Try.func129 (by kernel_rfl) rfl #[.agg #[.slice A0_0 l0_0.length c0_0, .slice A0_1 l0_1.length c0_1]] rfl (by (try simp only [List.map_toArray, List.map_cons, List.map_nil]); first | done | rfl | (simp only [List.length_drop, List.length_take]; rfl)) ?_; (with_reducible refine (selfstabref01_Size.calls k _ _ l0_0 _ _ l0_1 t852 t853 _ ?side1 ?side2 ?side3 ?side4 A2.out).mono ?_); (case side1 => repeat (first | exact (Kd.C_below HR0_0.out HB.out) | (with_reducible refine Kd.C_alloc ?_ _) | (with_reducible refine Kd.C_drewN ?_ _) | (with_reducible refine Kd.C_drew ?_))); (case side2 => exact HC0_0.out); (case side3 => repeat (first | exact (Kd.C_below HR0_1.out HB.out) | (with_reducible refine Kd.C_alloc ?_ _) | (with_reducible refine Kd.C_drewN ?_ _) | (with_reducible refine Kd.C_drew ?_))); (case side4 => exact HC0_1.out); rintro e w7 ⟨rfl, hb⟩; refine ⟨_, rfl, ?_⟩; have n0_ := Aside0.mk (blk_below (g := gb851) (o := .cells #[.slice A0_0 l0_0.length c0_0, .slice A0_1 l0_1.length c0_1] 27 (0, 0)) (by (with_reducible repeat (first | refine blk_drewN ?_ _ | refine blk_drew ?_ | refine blk_alloc ?_ _)); exact BK851.out) hb); have n1_ := Aside0.mk (below_step (by repeat (first | (with_reducible first | exact HB.out | apply below_alloc | apply pw_below_drewN | apply below_drew1 | refine below_set ?_ GE851.out) | exact HB.out)) hb); clear BK851; clear HB; have BK851 := n0_; have HB := n1_; clear n0_ n1_; (try clear hb); (try clear hb2); (try clear hk); (try clear hi); have hcz8_0 : w7.cell? ⟨gb851, 0, none⟩ = some (.slice A0_0 l0_0.length c0_0) := (blk_cell BK851.out 0).trans rfl; have hcz8_1 : w7.cell? ⟨gb851, 1, none⟩ = some (.slice A0_1 l0_1.length c0_1) := (blk_cell BK851.out 1).trans rfl; have hfz8_0 := blk_frozen BK851.out 0; have hfz8_1 := blk_frozen BK851.out 1) | ((with_reducible refine gate_callee (f := 88) rfl ?_); refine goesL_ (some 11) rfl rfl Try.func88 (by kernel_rfl) rfl #[.agg #[.slice A0_0 l0_0.length c0_0, .slice A0_1 l0_1.length c0_1]] rfl (by (try simp only [List.map_toArray, List.map_cons, List.map_nil]); first | done | rfl | (simp only [List.length_drop, List.length_take]; rfl)) ?_; (with_reducible refine (selfstabref01_Connected.calls k _ _ l0_0 _ _ l0_1 true _ ?side1 ?side2 ?side3 ?side4 A3.out).mono ?_); (case side1 => repeat (first | exact (Kd.C_below HR0_0.out HB.out) | (with_reducible refine Kd.C_alloc ?_ _) | (with_reducible refine Kd.C_drewN ?_ _) | (with_reducible refine Kd.C_drew ?_))); (case side2 => exact HC0_0.out); (case side3 => repeat (first | exact (Kd.C_below HR0_1.out HB.out) | (with_reducible refine Kd.C_alloc ?_ _) | (with_reducible refine Kd.C_drewN ?_ _) | (with_reducible refine Kd.C_drew ?_))); (case side4 => exact HC0_1.out); rintro e w9 ⟨rfl, hb⟩; refine ⟨_, rfl, ?_⟩; have n0_ := Aside0.mk (blk_below (g := gb851) (o := .cells #[.slice A0_0 l0_0.length c0_0, .slice A0_1 l0_1.length c0_1] 27 (0, 0)) (by (with_reducible repeat (first | refine blk_drewN ?_ _ | refine blk_drew ?_ | refine blk_alloc ?_ _)); exact BK851.out) hb); have n1_ := Aside0.mk (below_step (by repeat (first | (with_reducible first | exact HB.out | apply below_alloc | apply pw_below_drewN | apply below_drew1 | refine below_set ?_ GE851.out) | exact HB.out)) hb); clear BK851; clear HB; have BK851 := n0_; have HB := n1_; clear n0_ n1_; (try clear hb); (try clear hb2); (try clear hk); (try clear hi)))
  go_ret
  exact ⟨by first | rfl | (simp [errW_none, errW_some] <;> rfl) | (simp [*, errW_none, errW_some] <;> rfl), by repeat (first | (with_reducible first | exact HB.out | apply below_alloc | apply pw_below_drewN | apply below_drew1 | refine below_set ?_ GE851.out) | exact HB.out)⟩
 ·
  replace c4 := Bool.eq_false_iff.mpr c4
  subst c4
  have H1 : (some false) = some r := by rw [if_neg (show ¬ (false = true) by decide)] at H; exact H
  clear H
  have H := H1
  clear H1
  obtain rfl := Option.some.inj H
  go_enter Try.func105, Try.ntmps105
  go_wp2_with (first | ((with_reducible refine gate_dst (N := 1) rfl ?_); refine box_event ?hg (N := 1) ?hd (cs := #[.slice A0_0 l0_0.length c0_0, .slice A0_1 l0_1.length c0_1]) (t := 27) ?hr ?_; (case hd => rfl); (case hg => rfl); (case hr => first | (go_simp; done) | (go_simp; rfl)); intro gb851 hg w10 hbox hb; have n0_ := Aside0.mk (below_step (by repeat (first | (with_reducible first | exact HB.out | apply below_alloc | apply pw_below_drewN | apply below_drew1) | exact HB.out)) hb); have n1_ := Aside0.mk (hbox); have n2_ := Aside0.mk ((by rw [hg]; exact (below_size (by repeat (first | (with_reducible first | exact HB.out | apply below_alloc | apply pw_below_drewN | apply below_drew1) | exact HB.out))) : w.heap.size ≤ gb851)); have n3_ := Aside0.mk ((by rw [hg]; exact (below_size (by repeat (first | (with_reducible first | exact HB.out | apply below_alloc | apply pw_below_drewN | apply below_drew1) | exact HB.out))) : w.heap.size ≤ gb851)); clear HB; have HB := n0_; have BK851 := n1_; have GW851 := n2_; have GE851 := n3_; clear n0_ n1_ n2_ n3_; clear hb hbox hg; have hcz11_0 : w10.cell? ⟨gb851, 0, none⟩ = some (.slice A0_0 l0_0.length c0_0) := (blk_cell BK851.out 0).trans rfl; have hcz11_1 : w10.cell? ⟨gb851, 1, none⟩ = some (.slice A0_1 l0_1.length c0_1) := (blk_cell BK851.out 1).trans rfl; have hfz11_0 := blk_frozen BK851.out 0; have hfz11_1 := blk_frozen BK851.out 1) | ((with_reducible refine gate_callee (f := 129) rfl ?_); refine goesL_ (some 7) rfl rfl Try.func129 (by kernel_rfl) rfl #[.agg #[.slice A0_0 l0_0.length c0_0, .slice A0_1 l0_1.length c0_1]] rfl (by (try simp only [List.map_toArray, List.map_cons, List.map_nil]); first | done | rfl | (simp only [List.length_drop, List.length_take]; rfl)) ?_; (with_reducible refine (selfstabref01_Size.calls k _ _ l0_0 _ _ l0_1 t852 t853 _ ?side1 ?side2 ?side3 ?side4 A2.out).mono ?_); (case side1 => repeat (first | exact (Kd.C_below HR0_0.out HB.out) | (with_reducible refine Kd.C_alloc ?_ _) | (with_reducible refine Kd.C_drewN ?_ _) | (with_reducible refine Kd.C_drew ?_))); (case side2 => exact HC0_0.out); (case side3 => repeat (first | exact (Kd.C_below HR0_1.out HB.out) | (with_reducible refine Kd.C_alloc ?_ _) | (with_reducible refine Kd.C_drewN ?_ _) | (with_reducible refine Kd.C_drew ?_))); (case side4 => exact HC0_1.out); rintro e w12 ⟨rfl, hb⟩; refine ⟨_, rfl, ?_⟩; have n0_ := Aside0.mk (blk_below (g := gb851) (o := .cells #[.slice A0_0 l0_0.length c0_0, .slice A0_1 l0_1.length c0_1] 27 (0, 0)) (by (with_reducible repeat (first | refine blk_drewN ?_ _ | refine blk_drew ?_ | refine blk_alloc ?_ _)); exact BK851.out) hb); have n1_ := Aside0.mk (below_step (by repeat (first | (with_reducible first | exact HB.out | apply below_alloc | apply pw_below_drewN | apply below_drew1 | refine below_set ?_ GE851.out) | exact HB.out)) hb); clear BK851; clear HB; have BK851 := n0_; have HB := n1_; clear n0_ n1_; (try clear hb); (try clear hb2); (try clear hk); (try clear hi); have hcz13_0 : w12.cell? ⟨gb851, 0, none⟩ = some (.slice A0_0 l0_0.length c0_0) := (blk_cell BK851.out 0).trans rfl; have hcz13_1 : w12.cell? ⟨gb851, 1, none⟩ = some (.slice A0_1 l0_1.length c0_1) := (blk_cell BK851.out 1).trans rfl; have hfz13_0 := blk_frozen BK851.out 0; have hfz13_1 := blk_frozen BK851.out 1) | ((with_reducible refine gate_callee (f := 88) rfl ?_); refine goesL_ (some 11) rfl rfl Try.func88 (by kernel_rfl) rfl #[.agg #[.slice A0_0 l0_0.length c0_0, .slice A0_1 l0_1.length c0_1]] rfl (by (try simp only [List.map_toArray, List.map_cons, List.map_nil]); first | done | rfl | (simp only [List.length_drop, List.length_take]; rfl)) ?_; (with_reducible refine (selfstabref01_Connected.calls k _ _ l0_0 _ _ l0_1 false _ ?side1 ?side2 ?side3 ?side4 A3.out).mono ?_); (case side1 => repeat (first | exact (Kd.C_below HR0_0.out HB.out) | (with_reducible refine Kd.C_alloc ?_ _) | (with_reducible refine Kd.C_drewN ?_ _) | (with_reducible refine Kd.C_drew ?_))); (case side2 => exact HC0_0.out); (case side3 => repeat (first | exact (Kd.C_below HR0_1.out HB.out) | (with_reducible refine Kd.C_alloc ?_ _) | (with_reducible refine Kd.C_drewN ?_ _) | (with_reducible refine Kd.C_drew ?_))); (case side4 => exact HC0_1.out); rintro e w14 ⟨rfl, hb⟩; refine ⟨_, rfl, ?_⟩; have n0_ := Aside0.mk (blk_below (g := gb851) (o := .cells #[.slice A0_0 l0_0.length c0_0, .slice A0_1 l0_1.length c0_1] 27 (0, 0)) (by (with_reducible repeat (first | refine blk_drewN ?_ _ | refine blk_drew ?_ | refine blk_alloc ?_ _)); exact BK851.out) hb); have n1_ := Aside0.mk (below_step (by repeat (first | (with_reducible first | exact HB.out | apply below_alloc | apply pw_below_drewN | apply below_drew1 | refine below_set ?_ GE851.out) | exact HB.out)) hb); clear BK851; clear HB; have BK851 := n0_; have HB := n1_; clear n0_ n1_; (try clear hb); (try clear hb2); (try clear hk); (try clear hi)))
  go_ret
  exact ⟨by first | rfl | (simp [errW_none, errW_some] <;> rfl) | (simp [*, errW_none, errW_some] <;> rfl), by repeat (first | (with_reducible first | exact HB.out | apply below_alloc | apply pw_below_drewN | apply below_drew1 | refine below_set ?_ GE851.out) | exact HB.out)⟩
end Go.Proofs.YthapikakneikbaaG
/-
  Plain laws: sizes, trees; in a tree each link leads to the one before or to one behind it on the way from node 0.
-/
namespace Go.Proofs.YthapikakneikbaaG
open Go.RowKit Go.Proofs.YthapikakneikbaaW.PrintWords Go.Proofs.YthapikakneikbaaW.PrintMore
/-- How many ports the first i nodes have. -/
def portsTo (p : List (List S60)) (i : Nat) : Nat := ((p.take i).map List.length).sum
theorem portsTo_succ {p : List (List S60)} {i : Nat} (h : i < p.length) : portsTo p (i + 1) = portsTo p i + (p.getD i []).length := by
  unfold portsTo
  rw [List.take_succ_eq_append_getElem h, List.map_append, List.sum_append, List.getD_eq_getElem?_getD, List.getElem?_eq_getElem h]
  simp
theorem portsTo_le {ids : List Int} {p : List (List S60)} (hv : (toG ids p).valid = true) : ∀ i, i ≤ p.length → portsTo p i ≤ 576 * i := by
  intro i
  induction i with
  | zero => intro _; simp [portsTo]
  | succ i ih =>
    intro hi
    have h1 := ih (by omega)
    have h2 := row_small hv (v := i) (by omega)
    rw [portsTo_succ (by omega), List.getD_eq_getElem?_getD, List.getElem?_eq_getElem (by omega)]
    simp only [Option.getD_some]
    omega
def sizeG (ids : List Int) (p : List (List S60)) : Int × Int := if (toG ids p).valid = true then ((p.length : Int), ((portsTo p p.length / 2 : Nat) : Int)) else (0, 0)
section
variable {ids : List Int} {p : List (List S60)}
theorem half_id {m : Nat} (h : m ≤ 100000) : wrap64 (Int.tdiv (m : Int) 2) = ((m / 2 : Nat) : Int) := by
  have : Int.tdiv (m : Int) 2 = ((m / 2 : Nat) : Int) := rfl
  rw [this, wrap_id (by omega) (by omega)]
theorem size_l0 (hv : (toG ids p).valid = true) : ∀ m i, m + i = p.length →
    Ev (fun k => graph_Size.l0 k (portsTo p i : Nat) p (p.length : Int) (i : Int) ids p) ((p.length : Int), ((portsTo p p.length / 2 : Nat) : Int)) ∧
    Ev (fun k => selfstabref01_Size.l0 k (portsTo p i : Nat) (i : Int) ids p) ((p.length : Int), ((portsTo p p.length / 2 : Nat) : Int)) := by
  obtain ⟨s1, s2, _⟩ := valid_size hv
  intro m
  induction m with
  | zero =>
    intro i hm
    obtain rfl : i = p.length := by omega
    have hb := portsTo_le hv p.length (Nat.le_refl _)
    refine ⟨Ev.step (f := fun _ => some _) (fun k => ?_) Ev.some, Ev.step (f := fun _ => some _) (fun k => ?_) Ev.some⟩
    · rw [graph_Size.l0, if_neg (by omega), half_id (by omega)]
    · rw [selfstabref01_Size.l0, if_neg (by omega), half_id (by omega)]
  | succ m ih =>
    intro i hm
    obtain ⟨g1, g2⟩ := ih (i + 1) (by omega)
    have hb := portsTo_le hv (i + 1) (by omega)
    have hs := portsTo_succ (p := p) (i := i) (by omega)
    have e1 : wrap64 (((portsTo p i : Nat) : Int) + ((p.getD i []).length : Int)) = ((portsTo p (i + 1) : Nat) : Int) := by rw [wrap_id (by omega) (by omega)]; omega
    have e2 : wrap64 ((i : Int) + 1) = ((i + 1 : Nat) : Int) := by rw [wrap_id (by omega) (by omega)]; rfl
    refine ⟨Ev.step (fun k => ?_) g1, Ev.step (fun k => ?_) g2⟩
    · rw [graph_Size.l0, if_pos (by omega), if_pos (by omega), if_pos (by omega), rdPorts_nat, e1, e2]
    · rw [selfstabref01_Size.l0, if_pos (by omega), if_pos (by omega), rdPorts_nat, e1, e2]
theorem size_ev : Ev (fun k => graph_Size.f k ids p) (sizeG ids p) := by
  unfold graph_Size.f graph_Valid.f sizeG
  cases hv : (toG ids p).valid with
  | false => exact Ev.congr (f := fun _ => some (0, 0)) (fun k => by rw [Option.bind_some, if_neg (by simp)]) (Ev.some' (by rw [if_neg (by simp)]))
  | true =>
    rw [if_pos rfl]
    exact Ev.congr (fun k => by rw [Option.bind_some, if_pos rfl]; rfl) (size_l0 hv p.length 0 (by omega)).1
theorem rsize_ev : Ev (fun k => selfstabref01_Size.f k ids p) (sizeG ids p) := by
  unfold selfstabref01_Size.f selfstabref01_Valid.f sizeG
  cases hv : (toG ids p).valid with
  | false => exact Ev.congr (f := fun _ => some (0, 0)) (fun k => by rw [Option.bind_some, if_neg (by simp)]) (Ev.some' (by rw [if_neg (by simp)]))
  | true =>
    rw [if_pos rfl]
    exact Ev.congr (fun k => by rw [Option.bind_some, if_pos rfl]; rfl) (size_l0 hv p.length 0 (by omega)).2
def treeG (ids : List Int) (p : List (List S60)) : Bool := connG ids p && ((sizeG ids p).2 == wrap64 ((sizeG ids p).1 - 1))
theorem tree_ev : Ev (fun k => graph_Tree.f k ids p) (treeG ids p) := by
  unfold graph_Tree.f treeG
  refine Ev.bind size_ev (Ev.bind (conn_ev ids p) ?_)
  cases connG ids p with
  | false => exact Ev.congr (f := fun _ => some false) (fun k => by rw [if_neg (by simp)]) Ev.some
  | true => exact Ev.congr (f := fun _ => some _) (fun k => by rw [if_pos rfl]) (Ev.some' (Bool.true_and _).symm)
theorem rtree_ev : Ev (fun k => selfstabref01_Tree.f k ids p) (treeG ids p) := by
  unfold selfstabref01_Tree.f treeG
  refine Ev.bind rsize_ev (Ev.bind (rconn_ev ids p) ?_)
  cases connG ids p with
  | false => exact Ev.congr (f := fun _ => some false) (fun k => by rw [if_neg (by simp)]) Ev.some
  | true => exact Ev.congr (f := fun _ => some _) (fun k => by rw [if_pos rfl]) (Ev.some' (Bool.true_and _).symm)
theorem tree_conn (h : treeG ids p = true) : connG ids p = true ∧ portsTo p p.length / 2 + 1 = p.length := by
  unfold treeG at h
  rw [Bool.and_eq_true, beq_iff_eq] at h
  have hv := conn_valid h.1
  obtain ⟨s1, s2, _⟩ := valid_size hv
  have h2 := h.2
  unfold sizeG at h2
  rw [if_pos hv, wrap_id (by simp; omega) (by simp; omega)] at h2
  simp only at h2
  exact ⟨h.1, by omega⟩
theorem edgesFrom_len (v : Int) (P : List (List Go.Proofs.Ythapikakneikbaa.Link)) : (Go.Proofs.Ythapikakneikbaa.edgesFrom v P).length = (P.map List.length).sum := by
  induction P generalizing v with
  | nil => rfl
  | cons q r ih => simp [Go.Proofs.Ythapikakneikbaa.edgesFrom, Go.Proofs.Ythapikakneikbaa.rowEdges, ih]
theorem edges_len : (toG ids p).edges.length = portsTo p p.length := by
  unfold Go.Proofs.Ythapikakneikbaa.Graph.edges portsTo
  rw [edgesFrom_len, List.take_length]
  simp only [toG, List.map_map]
  congr 1
  exact List.map_congr_left fun r _ => by simp
theorem key_mem {v u : Nat} (hv : v < p.length) (h : adjP p v u = true) : ((v : Int), (u : Int)) ∈ (toG ids p).edges.map Go.Proofs.Ythapikakneikbaa.Edge.key := by
  unfold adjP at h
  rw [List.any_eq_true] at h
  obtain ⟨l, hl, e⟩ := h
  rw [decide_eq_true_eq] at e
  rw [List.getD_eq_getElem?_getD, List.getElem?_eq_getElem hv, Option.getD_some] at hl
  refine List.mem_map.2 ⟨⟨v, l.f0, l.f1⟩, ?_, by unfold Go.Proofs.Ythapikakneikbaa.Edge.key; rw [e]⟩
  unfold Go.Proofs.Ythapikakneikbaa.Graph.edges
  rw [Go.Proofs.Ythapikakneikbaa.mem_edgesFrom]
  exact ⟨v, p[v].map toL, by simp [toG, hv], by simp, List.mem_map.2 ⟨l, hl, rfl⟩⟩
/-- Each node but node 0 has a neighbour that is nearer to node 0. -/
theorem nearer (h : connG ids p = true) {v : Nat} (hv : v < p.length) (h0 : v ≠ 0) : ∃ u, u < p.length ∧ adjP p u v = true ∧ distTo p 0 p.length v = distTo p 0 p.length u + 1 := by
  rcases distTo_cases (p := p) (a := 0) p.length v with ⟨h1, _⟩ | ⟨e, he, h1, h2⟩
  · have := conn_all h hv; omega
  · cases e with
    | zero => exact absurd (of_decide_eq_true h1) h0
    | succ e =>
      rw [Fr_succ, Bool.and_eq_true] at h1
      have h3 := h1.1
      unfold nx at h3
      rw [List.any_eq_true] at h3
      obtain ⟨u, hu, h4⟩ := h3
      rw [Bool.and_eq_true] at h4
      refine ⟨u, List.mem_range.1 hu, h4.2, ?_⟩
      rw [h2, distTo_of (by omega) h4.1]
      omega
theorem no_loop (hV : (toG ids p).valid = true) {v u : Nat} (hv : v < p.length) (h : adjP p v u = true) : v ≠ u := by
  unfold adjP at h
  rw [List.any_eq_true] at h
  obtain ⟨l, hl, e⟩ := h
  rw [decide_eq_true_eq] at e
  rw [List.getD_eq_getElem?_getD, List.getElem?_eq_getElem hv, Option.getD_some] at hl
  have := (valid_to hV hv hl).2.2
  rw [e] at this
  omega
/-- In a tree each link is one to the node before, or one from it. -/
theorem tree_links (h : treeG ids p = true) : ∃ par : Nat → Nat, ∀ x y, x < p.length → y < p.length → adjP p x y = true →
    (x = par y ∧ distTo p 0 p.length y = distTo p 0 p.length x + 1) ∨ (y = par x ∧ distTo p 0 p.length x = distTo p 0 p.length y + 1) := by
  obtain ⟨hc, hn⟩ := tree_conn h
  have hV := conn_valid hc
  obtain ⟨s1, s2, _⟩ := valid_size hV
  have hex : ∀ v : Nat, ∃ u : Nat, v < p.length → v ≠ 0 → u < p.length ∧ adjP p u v = true ∧ distTo p 0 p.length v = distTo p 0 p.length u + 1 := fun v => by
    by_cases hv : v < p.length ∧ v ≠ 0
    · obtain ⟨u, hu⟩ := nearer hc hv.1 hv.2
      exact ⟨u, fun _ _ => hu⟩
    · exact ⟨0, fun a b => absurd ⟨a, b⟩ hv⟩
  obtain ⟨par, hpar⟩ := Classical.axiomOfChoice hex
  refine ⟨par, fun x y hx hy hxy => ?_⟩
  refine Classical.byContradiction fun hno => ?_
  have hyx := adj_sym hV hx hy hxy
  have hne := no_loop hV hx hxy
  have hnd := ((Go.Proofs.Ythapikakneikbaa.valid_iff _).1 hV).2.2.2.2.1
  have t1 : ¬ (y ≠ 0 ∧ x = par y) := fun ⟨a, b⟩ => hno (.inl ⟨b, by rw [b]; exact (hpar y hy a).2.2⟩)
  have t2 : ¬ (x ≠ 0 ∧ y = par x) := fun ⟨a, b⟩ => hno (.inr ⟨b, by rw [b]; exact (hpar x hx a).2.2⟩)
  have hP : ∀ i, i < p.length - 1 → par (i + 1) < p.length ∧ adjP p (par (i + 1)) (i + 1) = true ∧ distTo p 0 p.length (i + 1) = distTo p 0 p.length (par (i + 1)) + 1 := fun i hi => hpar (i + 1) (by omega) (by omega)
  clear hex hpar hno
  let A : List (Int × Int) := (List.range (p.length - 1)).map fun i => (((i + 1 : Nat) : Int), ((par (i + 1) : Nat) : Int))
  let B : List (Int × Int) := (List.range (p.length - 1)).map fun i => (((par (i + 1) : Nat) : Int), ((i + 1 : Nat) : Int))
  let C : List (Int × Int) := [((x : Int), (y : Int)), ((y : Int), (x : Int))]
  have hA : A.Nodup := List.Pairwise.map _ (fun a b (hab : a ≠ b) e => hab (by have := (Prod.mk.inj e).1; omega)) List.nodup_range
  have hB : B.Nodup := List.Pairwise.map _ (fun a b (hab : a ≠ b) e => hab (by have := (Prod.mk.inj e).2; omega)) List.nodup_range
  have hC : C.Nodup := by
    refine List.nodup_cons.2 ⟨fun hm => ?_, List.nodup_cons.2 ⟨by simp, List.nodup_nil⟩⟩
    have := (Prod.mk.inj (List.mem_singleton.1 hm)).1
    omega
  have hAB : (A ++ B).Nodup := by
    refine List.nodup_append.2 ⟨hA, hB, fun a ha b hb e => ?_⟩
    obtain ⟨i, hi, rfl⟩ := List.mem_map.1 ha
    obtain ⟨j, hj, rfl⟩ := List.mem_map.1 hb
    rw [List.mem_range] at hi hj
    obtain ⟨e1, e2⟩ := Prod.mk.inj e
    have e1' : i + 1 = par (j + 1) := by omega
    have e2' : par (i + 1) = j + 1 := by omega
    have d1 := (hP i hi).2.2
    have d2 := (hP j hj).2.2
    rw [e2'] at d1
    rw [← e1'] at d2
    omega
  have hABC : ((A ++ B) ++ C).Nodup := by
    refine List.nodup_append.2 ⟨hAB, hC, fun a ha b hb e => ?_⟩
    subst e
    rcases List.mem_append.1 ha with ha | ha
    · obtain ⟨i, hi, rfl⟩ := List.mem_map.1 ha
      rcases List.mem_cons.1 hb with e | hb
      · obtain ⟨e1, e2⟩ := Prod.mk.inj e
        obtain rfl : i + 1 = x := by omega
        exact t2 ⟨by omega, by omega⟩
      · obtain ⟨e1, e2⟩ := Prod.mk.inj (List.mem_singleton.1 hb)
        obtain rfl : i + 1 = y := by omega
        exact t1 ⟨by omega, by omega⟩
    · obtain ⟨i, hi, rfl⟩ := List.mem_map.1 ha
      rcases List.mem_cons.1 hb with e | hb
      · obtain ⟨e1, e2⟩ := Prod.mk.inj e
        obtain rfl : i + 1 = y := by omega
        exact t1 ⟨by omega, by omega⟩
      · obtain ⟨e1, e2⟩ := Prod.mk.inj (List.mem_singleton.1 hb)
        obtain rfl : i + 1 = x := by omega
        exact t2 ⟨by omega, by omega⟩
  have hsub : ((A ++ B) ++ C) ⊆ (toG ids p).edges.map Go.Proofs.Ythapikakneikbaa.Edge.key := fun a ha => by
    rcases List.mem_append.1 ha with ha | ha
    · rcases List.mem_append.1 ha with ha | ha
      · obtain ⟨i, hi, rfl⟩ := List.mem_map.1 ha
        have hi := List.mem_range.1 hi
        exact key_mem (by omega) (adj_sym hV (hP i hi).1 (by omega) (hP i hi).2.1)
      · obtain ⟨i, hi, rfl⟩ := List.mem_map.1 ha
        have hi := List.mem_range.1 hi
        exact key_mem (hP i hi).1 (hP i hi).2.1
    · rcases List.mem_cons.1 ha with rfl | ha
      · exact key_mem hx hxy
      · obtain rfl := List.mem_singleton.1 ha
        exact key_mem hy hyx
  have hlen := List.Nodup.length_le_of_subset hABC hsub
  rw [List.length_map, edges_len] at hlen
  simp only [A, B, C, List.length_append, List.length_map, List.length_range, List.length_cons, List.length_nil] at hlen
  omega
end
end Go.Proofs.YthapikakneikbaaG
namespace Go.Proofs.YthapikakneikbaaG
open Go.RowKit Go.Proofs.YthapikakneikbaaW.PrintWords Go.Proofs.YthapikakneikbaaW.PrintLast Go.Proofs.YthapikakneikbaaW.PrintMore
attribute [local go_sem] max2_int min2_int max_two min_two max_three min_three max_four min_four   -- for this text's walks alone
set_option linter.unusedVariables false
set_option linter.unusedSimpArgs false
mutual
def shape_reach.l0 : Nat → Int → Int → Int → List (S60) → Int → Int → List Int → List (List (S60)) → Option (Int)
 | 0, _, _, _, _, _, _, _, _ => none
 | k + 1, x1, x2, x7, x14, x15, x16, x773000, x773001 => if x16 < x15 then (if 0 ≤ x16 then (if x16 < (x14.length : Int) then (if ((rd_T60 x14 x16).f0) = x1 then (shape_reach.l0 k x1 x2 x7 x14 x15 (wrap64 (x16 + 1)) x773000 x773001) else ((shape_reach.f k x773000 x773001 x2 ((rd_T60 x14 x16).f0)).bind fun t776 => (shape_reach.l0 k x1 x2 (mx x7 t776) x14 x15 (wrap64 (x16 + 1)) x773000 x773001))) else (none)) else (none)) else (some (wrap64 (x7 + 1)))
def shape_reach.f : Nat → List Int → List (List (S60)) → Int → Int → Option (Int)
 | 0, _, _, _, _ => none
 | k + 1, l0_0, l0_1, a1, a2 => if 0 ≤ a2 then (if a2 < (l0_1.length : Int) then (shape_reach.l0 k a1 a2 0 (rd_L2 l0_1 a2) ((rd_L2 l0_1 a2).length : Int) 0 l0_0 l0_1) else (none)) else (none)
end
theorem shape_reach.mono_l : ∀ k, (∀ y0 y1 y2 y3, LeO (shape_reach.f k y0 y1 y2 y3) (shape_reach.f (k + 1) y0 y1 y2 y3)) ∧ (∀ y0 y1 y2 y3 y4 y5 y6 y7, LeO (shape_reach.l0 k y0 y1 y2 y3 y4 y5 y6 y7) (shape_reach.l0 (k + 1) y0 y1 y2 y3 y4 y5 y6 y7))
 | 0 => ⟨fun _ _ _ _ r h => by simp [shape_reach.f] at h, fun _ _ _ _ _ _ _ _ r h => by simp [shape_reach.l0] at h⟩
 | k + 1 => by
  obtain ⟨ih0, ih1⟩ := shape_reach.mono_l k
  refine ⟨?_, ?_⟩
  ·
   intro y0 y1 y2 y3
   unfold shape_reach.f
   repeat' first
   | (with_reducible exact ih0 _ _ _ _)
   | (with_reducible exact ih1 _ _ _ _ _ _ _ _)
   | (with_reducible exact LeO.refl _)
   | (with_reducible exact LeO.none _)
   | (with_reducible refine LeO.ite ?_ ?_)
   | (with_reducible refine LeO.bind ?_ (fun _ => ?_))
   | exact ih0 _ _ _ _
   | exact ih1 _ _ _ _ _ _ _ _
   | exact LeO.none _
   | refine LeO.ite ?_ ?_
   | refine LeO.bind ?_ (fun _ => ?_)
  ·
   intro y0 y1 y2 y3 y4 y5 y6 y7
   unfold shape_reach.l0
   repeat' first
   | (with_reducible exact ih0 _ _ _ _)
   | (with_reducible exact ih1 _ _ _ _ _ _ _ _)
   | (with_reducible exact LeO.refl _)
   | (with_reducible exact LeO.none _)
   | (with_reducible refine LeO.ite ?_ ?_)
   | (with_reducible refine LeO.bind ?_ (fun _ => ?_))
   | exact ih0 _ _ _ _
   | exact ih1 _ _ _ _ _ _ _ _
   | exact LeO.none _
   | refine LeO.ite ?_ ?_
   | refine LeO.bind ?_ (fun _ => ?_)
theorem shape_reach.mono : ∀ a0 a1 a2 a3 k, LeO (shape_reach.f k a0 a1 a2 a3) (shape_reach.f (k + 1) a0 a1 a2 a3) := by
 intro a0 a1 a2 a3 k
 obtain ⟨ih0, ih1⟩ := shape_reach.mono_l k
 exact ih0 a0 a1 a2 a3
set_option maxHeartbeats 8000000 in
set_option maxRecDepth 100000 in
theorem shape_reach.calls (k : Nat) : ∀ (A0_0 : Option Addr) (c0_0 : Nat) (l0_0 : List Int) (A0_1 : Option Addr) (c0_1 : Nat) (l0_1 : List (List (S60))) (a1 : Int) (a2 : Int) (r : Int) (w : World) (hr0_0 : Kd.C (Kd.int .i64) w A0_0 l0_0.length l0_0) (hc0_0 : l0_0.length ≤ c0_0) (hr0_1 : Kd.C (Kd.slice 60 k60) w A0_1 l0_1.length l0_1) (hc0_1 : l0_1.length ≤ c0_1) (h : shape_reach.f k l0_0 l0_1 a1 a2 = some r),
  Calls Try.prog 130 #[.agg #[.slice A0_0 l0_0.length c0_0, .slice A0_1 l0_1.length c0_1], .int .i64 a1, .int .i64 a2] w fun e w' => e = .returned (.int .i64 r) ∧ Below w.heap.size w w' := by
 induction k using Nat.strongRecOn with
 | _ k ih =>
 intro A0_0 c0_0 l0_0 A0_1 c0_1 l0_1 a1 a2 r w hr0_0 hc0_0 hr0_1 hc0_1 h
 cases k with
 | zero => exact absurd h (by simp [shape_reach.f])
 | succ k =>
 simp only [shape_reach.f] at h
 have hu27 := Try.underlying27
 have hu60 := Try.underlying60
 have HR0_0 := Aside0.mk hr0_0
 have HC0_0 := Aside0.mk hc0_0
 clear hr0_0 hc0_0
 have HR0_1 := Aside0.mk hr0_1
 have HC0_1 := Aside0.mk hc0_1
 clear hr0_1 hc0_1
 have HB := Aside0.mk (Below.refl w.heap.size w)
 have H : (if 0 ≤ a2 then (if a2 < (l0_1.length : Int) then (shape_reach.l0 k a1 a2 0 (rd_L2 l0_1 a2) ((rd_L2 l0_1 a2).length : Int) 0 l0_0 l0_1) else (none)) else (none)) = some r := h
 clear h
 by_cases c4 : 0 ≤ a2
 ·
  rw [if_pos c4] at H
  have c4b0 : decide (0 ≤ a2) = true := decide_eq_true c4
  clear c4
  by_cases c5 : a2 < (l0_1.length : Int)
  ·
   rw [if_pos c5] at H
   have c5b0 : decide (a2 < (l0_1.length : Int)) = true := decide_eq_true c5
   clear c5
   have H' := Aside0.mk H
   clear H
   go_enter Try.func130, Try.ntmps130
   go_wp2_with (first | ((with_reducible refine gate_dst (N := 3) rfl ?_); refine box_event ?hg (N := 3) ?hd (cs := #[.slice A0_0 l0_0.length c0_0, .slice A0_1 l0_1.length c0_1]) (t := 27) ?hr ?_; (case hd => rfl); (case hg => rfl); (case hr => first | (go_simp; done) | (go_simp; rfl)); intro gb772 hg w6 hbox hb; have n0_ := Aside0.mk (below_step (by repeat (first | (with_reducible first | exact HB.out | apply below_alloc | apply pw_below_drewN | apply below_drew1) | exact HB.out)) hb); have n1_ := Aside0.mk (hbox); have n2_ := Aside0.mk ((by rw [hg]; exact (below_size (by repeat (first | (with_reducible first | exact HB.out | apply below_alloc | apply pw_below_drewN | apply below_drew1) | exact HB.out))) : w.heap.size ≤ gb772)); have n3_ := Aside0.mk ((by rw [hg]; exact (below_size (by repeat (first | (with_reducible first | exact HB.out | apply below_alloc | apply pw_below_drewN | apply below_drew1) | exact HB.out))) : w.heap.size ≤ gb772)); clear HB; have HB := n0_; have BK772 := n1_; have GW772 := n2_; have GE772 := n3_; clear n0_ n1_ n2_ n3_; clear hb hbox hg; have hcz7_0 : w6.cell? ⟨gb772, 0, none⟩ = some (.slice A0_0 l0_0.length c0_0) := (blk_cell BK772.out 0).trans rfl; have hcz7_1 : w6.cell? ⟨gb772, 1, none⟩ = some (.slice A0_1 l0_1.length c0_1) := (blk_cell BK772.out 1).trans rfl; have hfz7_0 := blk_frozen BK772.out 0; have hfz7_1 := blk_frozen BK772.out 1; have p773 : 0 ≤ (a2 : Int) := of_decide_eq_true (by first | (with_reducible assumption) | assumption); have q773 : a2 < (l0_1.length : Int) := of_decide_eq_true (by first | (with_reducible assumption) | assumption); obtain ⟨ad773, A773_0, c773_0, e773, hx773_0, hl773_0, hi773_0⟩ := at_L2 HR0_1.out a2 p773 q773; cases e773; replace hx773_0 := (HB.out.cell (World.block_lt_of_cell? w _ hx773_0)).trans hx773_0; have HR773_0 := Aside0.mk hi773_0; have HC773_0 := Aside0.mk hl773_0; clear hi773_0 hl773_0; replace p773 := eq_true p773; replace q773 := eq_true q773))
   go_loopg [7, 16] k (fun kq v7 v16 w' => ∃ (x7_1 : Int) (x16_1 : Int), v7 = .int .i64 x7_1 ∧ v16 = .int .i64 x16_1 ∧ Aside0 (shape_reach.l0 kq a1 a2 x7_1 (rd_L2 l0_1 a2) ((rd_L2 l0_1 a2).length : Int) x16_1 l0_0 l0_1 = some r) ∧ Aside0 (kq ≤ k) ∧ Aside0 (w'.heap[gb772]? = some (.cells #[(.slice A0_0 l0_0.length c0_0), (.slice (some ad773) l0_1.length c0_1)] 27 (0, 0))) ∧ Aside0 (Below w.heap.size w w'))
   case atStart => exact ⟨(0), (0), (by first | rfl | (simp; done) | (simp [*]; done)), (by first | rfl | (simp; done) | (simp [*]; done)), H', ⟨Nat.le_refl _⟩, ⟨by (with_reducible repeat (first | refine blk_drewN ?_ _ | refine blk_drew ?_ | refine blk_alloc ?_ _)); exact BK772.out⟩, ⟨by repeat (first | (with_reducible first | exact HB.out | apply below_alloc | apply pw_below_drewN | apply below_drew1 | refine below_set ?_ GE772.out) | exact HB.out)⟩⟩
   case round =>
    clear H'
    try clear c1
    try clear p2
    try clear c4
    try clear c4b0
    try clear c5
    try clear c5b0
    try clear c7
    try clear p7
    try clear q7
    try clear hx7
    try clear hcz7_0
    try clear hcz7_1
    try clear hfz7_0
    try clear hfz7_1
    try clear hx773_0
    try clear p773
    try clear q773
    obtain ⟨x7_1, x16_1, rfl, rfl, HA, HK1, BK772, HB⟩ := hrel
    cases gk with
    | zero => exact absurd HA.out (by simp [shape_reach.l0])
    | succ k1 =>
     have H := HA.out
     clear HA
     simp only [shape_reach.l0] at H
     by_cases c8 : x16_1 < ((rd_L2 l0_1 a2).length : Int)
     ·
      rw [if_pos c8] at H
      have c8b0 : decide (x16_1 < ((rd_L2 l0_1 a2).length : Int)) = true := decide_eq_true c8
      clear c8
      by_cases c9 : 0 ≤ x16_1
      ·
       rw [if_pos c9] at H
       have c9b0 : decide (0 ≤ x16_1) = true := decide_eq_true c9
       clear c9
       by_cases c10 : x16_1 < ((rd_L2 l0_1 a2).length : Int)
       ·
        rw [if_pos c10] at H
        have c10b0 : decide (x16_1 < ((rd_L2 l0_1 a2).length : Int)) = true := decide_eq_true c10
        clear c10
        by_cases c11 : ((rd_T60 (rd_L2 l0_1 a2) x16_1).f0) = a1
        ·
         rw [if_pos c11] at H
         have c11b0 : (((rd_T60 (rd_L2 l0_1 a2) x16_1).f0) == a1) = true := beq_iff_eq.mpr c11
         have c11b1 : (((rd_T60 (rd_L2 l0_1 a2) x16_1).f0) != a1) = false := bne_eq_false_iff_eq.mpr c11
         clear c11
         have H' := Aside0.mk H
         clear H
         have p774 : 0 ≤ (x16_1 : Int) := of_decide_eq_true (by first | (with_reducible assumption) | assumption)
         have q774 : x16_1 < ((rd_L2 l0_1 a2).length : Int) := of_decide_eq_true (by first | (with_reducible assumption) | assumption)
         obtain ⟨ad774, e774, hx774_0, hx774_1⟩ := at_T60 HR773_0.out x16_1 p774 q774
         cases e774
         replace hx774_0 := (HB.out.cell (World.block_lt_of_cell? w _ hx774_0)).trans hx774_0
         replace hx774_1 := (HB.out.cell (World.block_lt_of_cell? w _ hx774_1)).trans hx774_1
         replace p774 := eq_true p774
         replace q774 := eq_true q774
         go_wp2_with (first | ((with_reducible refine gate_dst (N := 9) rfl ?_); refine box_event ?hg (N := 9) ?hd (cs := #[.int .i64 0, .int .i64 0]) (t := 60) ?hr ?_; (case hd => rfl); (case hg => rfl); (case hr => first | (go_simp; done) | (go_simp; rfl)); intro gb775 hg w12 hbox hb; have n0_ := Aside0.mk (blk_below (g := gb772) (o := .cells #[.slice A0_0 l0_0.length c0_0, .slice (some ad773) l0_1.length c0_1] 27 (0, 0)) (by (with_reducible repeat (first | refine blk_drewN ?_ _ | refine blk_drew ?_ | refine blk_alloc ?_ _)); exact BK772.out) hb); have n1_ := Aside0.mk (below_step (by repeat (first | (with_reducible first | exact HB.out | apply below_alloc | apply pw_below_drewN | apply below_drew1 | refine below_set ?_ GE772.out) | exact HB.out)) hb); have n2_ := Aside0.mk (hbox); have n3_ := Aside0.mk ((by rw [hg]; exact (below_size (by repeat (first | (with_reducible first | exact HB.out | apply below_alloc | apply pw_below_drewN | apply below_drew1 | refine below_set ?_ GE772.out) | exact HB.out))) : w.heap.size ≤ gb775)); have n4_ := Aside0.mk ((by rw [hg]; exact (below_size (by repeat (first | (with_reducible first | exact HB.out | apply below_alloc | apply pw_below_drewN | apply below_drew1 | refine below_set ?_ GE772.out) | exact HB.out))) : w.heap.size ≤ gb775)); have n5_ := Aside0.mk ((by rw [hg]; exact Nat.ne_of_lt (blk_lt (g := gb772) (o := .cells #[.slice A0_0 l0_0.length c0_0, .slice (some ad773) l0_1.length c0_1] 27 (0, 0)) (by (with_reducible repeat (first | refine blk_drewN ?_ _ | refine blk_drew ?_ | refine blk_alloc ?_ _)); exact BK772.out)) : gb772 ≠ gb775)); have n6_ := Aside0.mk ((by rw [hg]; exact Nat.ne_of_gt (blk_lt (g := gb772) (o := .cells #[.slice A0_0 l0_0.length c0_0, .slice (some ad773) l0_1.length c0_1] 27 (0, 0)) (by (with_reducible repeat (first | refine blk_drewN ?_ _ | refine blk_drew ?_ | refine blk_alloc ?_ _)); exact BK772.out)) : gb775 ≠ gb772)); clear BK772; clear HB; have BK772 := n0_; have HB := n1_; have BK775 := n2_; have GW775 := n3_; have GE775 := n4_; have NB772_775 := n5_; have NB775_772 := n6_; clear n0_ n1_ n2_ n3_ n4_ n5_ n6_; clear hb hbox hg; have hnb13 := NB775_772.out; have hnc13 := NB772_775.out; have hcz14_0 : w12.cell? ⟨gb775, 0, none⟩ = some (.int .i64 0) := (blk_cell BK775.out 0).trans rfl; have hcz14_1 : w12.cell? ⟨gb775, 1, none⟩ = some (.int .i64 0) := (blk_cell BK775.out 1).trans rfl; have hfz14_0 := blk_frozen BK775.out 0; have hfz14_1 := blk_frozen BK775.out 1))
         go_roundg k1
         case measure => have := HK1.out; omega
         case rel => exact ⟨(x7_1), (wrap64 (x16_1 + 1)), (by first | rfl | (simp; done) | (simp [*]; done)), (by first | rfl | (simp; done) | (simp [*]; done)), H', ⟨by have := HK1.out; omega⟩, ⟨by (with_reducible repeat (first | refine blk_drewN ?_ _ | refine blk_drew ?_ | refine blk_alloc ?_ _)); refine blk_far ?_ NB772_775.out _; (with_reducible repeat (first | refine blk_drewN ?_ _ | refine blk_drew ?_ | refine blk_alloc ?_ _)); refine blk_far ?_ NB772_775.out _; (with_reducible repeat (first | refine blk_drewN ?_ _ | refine blk_drew ?_ | refine blk_alloc ?_ _)); exact BK772.out⟩, ⟨by repeat (first | (with_reducible first | exact HB.out | apply below_alloc | apply pw_below_drewN | apply below_drew1 | refine below_set ?_ GE772.out | refine below_set ?_ GE775.out) | exact HB.out)⟩⟩
        ·
         rw [if_neg c11] at H
         have c11b0 : (((rd_T60 (rd_L2 l0_1 a2) x16_1).f0) == a1) = false := beq_eq_false_iff_ne.mpr c11
         have c11b1 : (((rd_T60 (rd_L2 l0_1 a2) x16_1).f0) != a1) = true := bne_iff_ne.mpr c11
         replace H := Option.bind_eq_some_iff.mp H
         obtain ⟨t776, A150, H⟩ := H
         replace H : (shape_reach.l0 k1 a1 a2 (mx x7_1 t776) (rd_L2 l0_1 a2) ((rd_L2 l0_1 a2).length : Int) (wrap64 (x16_1 + 1)) l0_0 l0_1) = some r := H
         have A15 := Aside0.mk A150
         clear A150
         obtain ⟨ji16, hji16⟩ : ∃ j_ : Int, (mx x7_1 t776) = j_ := ⟨_, rfl⟩
         replace H : (shape_reach.l0 k1 a1 a2 ji16 (rd_L2 l0_1 a2) ((rd_L2 l0_1 a2).length : Int) (wrap64 (x16_1 + 1)) l0_0 l0_1) = some r := by first | (rw [hji16] at H; exact H) | (simp only [hji16] at H ⊢; exact H)
         (try rw [hji16] at A15)
         have hji16_ : (if x7_1 < t776 then t776 else x7_1) = ji16 := hji16
         have H' := Aside0.mk H
         clear H
         have p774 : 0 ≤ (x16_1 : Int) := of_decide_eq_true (by first | (with_reducible assumption) | assumption)
         have q774 : x16_1 < ((rd_L2 l0_1 a2).length : Int) := of_decide_eq_true (by first | (with_reducible assumption) | assumption)
         obtain ⟨ad774, e774, hx774_0, hx774_1⟩ := at_T60 HR773_0.out x16_1 p774 q774
         cases e774
         replace hx774_0 := (HB.out.cell (World.block_lt_of_cell? w _ hx774_0)).trans hx774_0
         replace hx774_1 := (HB.out.cell (World.block_lt_of_cell? w _ hx774_1)).trans hx774_1
         replace p774 := eq_true p774
         replace q774 := eq_true q774
         go_wp2_with (first | ((with_reducible refine gate_dst (N := 9) rfl ?_); refine box_event ?hg (N := 9) ?hd (cs := #[.int .i64 0, .int .i64 0]) (t := 60) ?hr ?_; (case hd => rfl); (case hg => rfl); (case hr => first | (go_simp; done) | (go_simp; rfl)); intro gb775 hg w17 hbox hb; have n0_ := Aside0.mk (blk_below (g := gb772) (o := .cells #[.slice A0_0 l0_0.length c0_0, .slice (some ad773) l0_1.length c0_1] 27 (0, 0)) (by (with_reducible repeat (first | refine blk_drewN ?_ _ | refine blk_drew ?_ | refine blk_alloc ?_ _)); exact BK772.out) hb); have n1_ := Aside0.mk (below_step (by repeat (first | (with_reducible first | exact HB.out | apply below_alloc | apply pw_below_drewN | apply below_drew1 | refine below_set ?_ GE772.out) | exact HB.out)) hb); have n2_ := Aside0.mk (hbox); have n3_ := Aside0.mk ((by rw [hg]; exact (below_size (by repeat (first | (with_reducible first | exact HB.out | apply below_alloc | apply pw_below_drewN | apply below_drew1 | refine below_set ?_ GE772.out) | exact HB.out))) : w.heap.size ≤ gb775)); have n4_ := Aside0.mk ((by rw [hg]; exact (below_size (by repeat (first | (with_reducible first | exact HB.out | apply below_alloc | apply pw_below_drewN | apply below_drew1 | refine below_set ?_ GE772.out) | exact HB.out))) : w.heap.size ≤ gb775)); have n5_ := Aside0.mk ((by rw [hg]; exact Nat.ne_of_lt (blk_lt (g := gb772) (o := .cells #[.slice A0_0 l0_0.length c0_0, .slice (some ad773) l0_1.length c0_1] 27 (0, 0)) (by (with_reducible repeat (first | refine blk_drewN ?_ _ | refine blk_drew ?_ | refine blk_alloc ?_ _)); exact BK772.out)) : gb772 ≠ gb775)); have n6_ := Aside0.mk ((by rw [hg]; exact Nat.ne_of_gt (blk_lt (g := gb772) (o := .cells #[.slice A0_0 l0_0.length c0_0, .slice (some ad773) l0_1.length c0_1] 27 (0, 0)) (by (with_reducible repeat (first | refine blk_drewN ?_ _ | refine blk_drew ?_ | refine blk_alloc ?_ _)); exact BK772.out)) : gb775 ≠ gb772)); clear BK772; clear HB; have BK772 := n0_; have HB := n1_; have BK775 := n2_; have GW775 := n3_; have GE775 := n4_; have NB772_775 := n5_; have NB775_772 := n6_; clear n0_ n1_ n2_ n3_ n4_ n5_ n6_; clear hb hbox hg; have hnb18 := NB775_772.out; have hnc18 := NB772_775.out; have hcz19_0 : w17.cell? ⟨gb775, 0, none⟩ = some (.int .i64 0) := (blk_cell BK775.out 0).trans rfl; have hcz19_1 : w17.cell? ⟨gb775, 1, none⟩ = some (.int .i64 0) := (blk_cell BK775.out 1).trans rfl; have hfz19_0 := blk_frozen BK775.out 0; have hfz19_1 := blk_frozen BK775.out 1; have hcz20_0 : w17.cell? ⟨gb772, 0, none⟩ = some (.slice A0_0 l0_0.length c0_0) := (blk_cell BK772.out 0).trans rfl; have hcz20_1 : w17.cell? ⟨gb772, 1, none⟩ = some (.slice (some ad773) l0_1.length c0_1) := (blk_cell BK772.out 1).trans rfl; have hfz20_0 := blk_frozen BK772.out 0; have hfz20_1 := blk_frozen BK772.out 1) | ((with_reducible refine gate_callee (f := 130) rfl ?_); refine goesL_ (some 29) rfl rfl Try.func130 (by kernel_rfl) rfl #[.agg #[.slice A0_0 l0_0.length c0_0, .slice (some ad773) l0_1.length c0_1], .int .i64 a2, .int .i64 ((rd_T60 (rd_L2 l0_1 a2) x16_1).f0)] rfl (by (try simp only [List.map_toArray, List.map_cons, List.map_nil]); first | done | rfl | (simp only [List.length_drop, List.length_take]; rfl)) ?_; (with_reducible refine (ih k1 (by have := HK1.out; omega) _ _ l0_0 _ _ l0_1 a2 ((rd_T60 (rd_L2 l0_1 a2) x16_1).f0) t776 _ ?side1 ?side2 ?side3 ?side4 A15.out).mono ?_); (case side1 => exact Kd.C_below HR0_0.out (by repeat (first | (with_reducible first | exact HB.out | apply below_alloc | apply pw_below_drewN | apply below_drew1 | refine below_set ?_ GE772.out | refine below_set ?_ GE775.out) | exact HB.out))); (case side2 => exact HC0_0.out); (case side3 => exact Kd.C_below HR0_1.out (by repeat (first | (with_reducible first | exact HB.out | apply below_alloc | apply pw_below_drewN | apply below_drew1 | refine below_set ?_ GE772.out | refine below_set ?_ GE775.out) | exact HB.out))); (case side4 => exact HC0_1.out); rintro e w21 ⟨rfl, hb⟩; refine ⟨_, rfl, ?_⟩; have n0_ := Aside0.mk (blk_below (g := gb772) (o := .cells #[.slice A0_0 l0_0.length c0_0, .slice (some ad773) l0_1.length c0_1] 27 (0, 0)) (by (with_reducible repeat (first | refine blk_drewN ?_ _ | refine blk_drew ?_ | refine blk_alloc ?_ _)); refine blk_far ?_ NB772_775.out _; (with_reducible repeat (first | refine blk_drewN ?_ _ | refine blk_drew ?_ | refine blk_alloc ?_ _)); refine blk_far ?_ NB772_775.out _; (with_reducible repeat (first | refine blk_drewN ?_ _ | refine blk_drew ?_ | refine blk_alloc ?_ _)); exact BK772.out) hb); have n1_ := Aside0.mk (blk_below (g := gb775) (o := .cells #[.int .i64 ((rd_T60 (rd_L2 l0_1 a2) x16_1).f0), .int .i64 ((rd_T60 (rd_L2 l0_1 a2) x16_1).f1)] 60 (0, 0)) (by (with_reducible repeat (first | refine blk_drewN ?_ _ | refine blk_drew ?_ | refine blk_alloc ?_ _)); refine blk_put (cs := #[.int .i64 ((rd_T60 (rd_L2 l0_1 a2) x16_1).f0), .int .i64 0]) ?_ 1 _ rfl; (with_reducible repeat (first | refine blk_drewN ?_ _ | refine blk_drew ?_ | refine blk_alloc ?_ _)); refine blk_put (cs := #[.int .i64 0, .int .i64 0]) ?_ 0 _ rfl; (with_reducible repeat (first | refine blk_drewN ?_ _ | refine blk_drew ?_ | refine blk_alloc ?_ _)); exact BK775.out) hb); have n2_ := Aside0.mk (below_step (by repeat (first | (with_reducible first | exact HB.out | apply below_alloc | apply pw_below_drewN | apply below_drew1 | refine below_set ?_ GE772.out | refine below_set ?_ GE775.out) | exact HB.out)) hb); clear BK772; clear BK775; clear HB; have BK772 := n0_; have BK775 := n1_; have HB := n2_; clear n0_ n1_ n2_; (try clear hb); (try clear hb2); (try clear hk); (try clear hi)))
         go_roundg k1
         case measure => have := HK1.out; omega
         case rel => exact ⟨(ji16), (wrap64 (x16_1 + 1)), (by first | rfl | (simp; done) | (simp only [← hji16] <;> (first | rfl | simp)) | (simp [*]; done)), (by first | rfl | (simp; done) | (simp [*]; done)), H', ⟨by have := HK1.out; omega⟩, ⟨by (with_reducible repeat (first | refine blk_drewN ?_ _ | refine blk_drew ?_ | refine blk_alloc ?_ _)); exact BK772.out⟩, ⟨by repeat (first | (with_reducible first | exact HB.out | apply below_alloc | apply pw_below_drewN | apply below_drew1 | refine below_set ?_ GE772.out | refine below_set ?_ GE775.out) | exact HB.out)⟩⟩
       ·
        rw [if_neg c10] at H
        exact absurd H (by simp)
      ·
       rw [if_neg c9] at H
       exact absurd H (by simp)
     ·
      rw [if_neg c8] at H
      have c8b0 : decide (x16_1 < ((rd_L2 l0_1 a2).length : Int)) = false := decide_eq_false c8
      clear c8
      obtain rfl := Option.some.inj H
      go_wp2
      go_ret
      exact ⟨by first | rfl | (simp [errW_none, errW_some] <;> rfl) | (simp [*, errW_none, errW_some] <;> rfl), by repeat (first | (with_reducible first | exact HB.out | apply below_alloc | apply pw_below_drewN | apply below_drew1 | refine below_set ?_ GE772.out) | exact HB.out)⟩
  ·
   rw [if_neg c5] at H
   exact absurd H (by simp)
 ·
  rw [if_neg c4] at H
  exact absurd H (by simp)
end Go.Proofs.YthapikakneikbaaG
namespace Go.Proofs.YthapikakneikbaaG
open Go.RowKit Go.Proofs.YthapikakneikbaaW.PrintWords Go.Proofs.YthapikakneikbaaW.PrintLast Go.Proofs.YthapikakneikbaaW.PrintMore
attribute [local go_sem] max2_int min2_int max_two min_two max_three min_three max_four min_four   -- for this text's walks alone
set_option linter.unusedVariables false
set_option linter.unusedSimpArgs false
mutual
def shape_Heights.l0 : Nat → List Int → Int → Int → List Int → List (List (S60)) → Option (List Int)
 | 0, _, _, _, _, _ => none
 | k + 1, x3, x16, x17, x778000, x778001 => if x17 < x16 then (if 0 ≤ x17 then (if x17 < (x778001.length : Int) then (shape_Heights.l1 k x3 x17 0 0 x16 x17 (rd_L2 x778001 x17) ((rd_L2 x778001 x17).length : Int) 0 x778000 x778001) else (none)) else (none)) else (some x3)
def shape_Heights.l1 : Nat → List Int → Int → Int → Int → Int → Int → List (S60) → Int → Int → List Int → List (List (S60)) → Option (List Int)
 | 0, _, _, _, _, _, _, _, _, _, _, _ => none
 | k + 1, x3, x4, x5, x6, x16, x17, x24, x25, x26, x778000, x778001 => if x26 < x25 then (if 0 ≤ x26 then (if x26 < (x24.length : Int) then ((shape_reach.f k x778000 x778001 x4 ((rd_T60 x24 x26).f0)).bind fun t784 => (if t784 > x5 then (shape_Heights.l1 k x3 x4 t784 x5 x16 x17 x24 x25 (wrap64 (x26 + 1)) x778000 x778001) else (shape_Heights.l1 k x3 x4 x5 (mx x6 t784) x16 x17 x24 x25 (wrap64 (x26 + 1)) x778000 x778001))) else (none)) else (none)) else (if 0 ≤ x4 then (if x4 < (x3.length : Int) then (shape_Heights.l0 k (x3.set (x4 : Int).toNat x6) x16 (wrap64 (x17 + 1)) x778000 x778001) else (none)) else (none))
end
def shape_Heights.f (k : Nat) (l0_0 : List Int) (l0_1 : List (List (S60))) : Option (List Int) := if 0 ≤ (l0_1.length : Int) then (if ((l0_1.length : Int) : Int).toNat ≤ 35184372088832 then (shape_Heights.l0 k (List.replicate ((l0_1.length : Int) : Int).toNat 0) (l0_1.length : Int) 0 l0_0 l0_1) else (none)) else (none)
theorem shape_Heights.mono_l : ∀ k, (∀ y0 y1 y2 y3 y4, LeO (shape_Heights.l0 k y0 y1 y2 y3 y4) (shape_Heights.l0 (k + 1) y0 y1 y2 y3 y4)) ∧ (∀ y0 y1 y2 y3 y4 y5 y6 y7 y8 y9 y10, LeO (shape_Heights.l1 k y0 y1 y2 y3 y4 y5 y6 y7 y8 y9 y10) (shape_Heights.l1 (k + 1) y0 y1 y2 y3 y4 y5 y6 y7 y8 y9 y10))
 | 0 => ⟨fun _ _ _ _ _ r h => by simp [shape_Heights.l0] at h, fun _ _ _ _ _ _ _ _ _ _ _ r h => by simp [shape_Heights.l1] at h⟩
 | k + 1 => by
  obtain ⟨ih0, ih1⟩ := shape_Heights.mono_l k
  refine ⟨?_, ?_⟩
  ·
   intro y0 y1 y2 y3 y4
   unfold shape_Heights.l0
   repeat' first
   | (with_reducible exact ih0 _ _ _ _ _)
   | (with_reducible exact ih1 _ _ _ _ _ _ _ _ _ _ _)
   | (with_reducible exact shape_reach.mono _ _ _ _ _)
   | (with_reducible exact LeO.refl _)
   | (with_reducible exact LeO.none _)
   | (with_reducible refine LeO.ite ?_ ?_)
   | (with_reducible refine LeO.bind ?_ (fun _ => ?_))
   | exact ih0 _ _ _ _ _
   | exact ih1 _ _ _ _ _ _ _ _ _ _ _
   | exact shape_reach.mono _ _ _ _ _
   | exact LeO.none _
   | refine LeO.ite ?_ ?_
   | refine LeO.bind ?_ (fun _ => ?_)
  ·
   intro y0 y1 y2 y3 y4 y5 y6 y7 y8 y9 y10
   unfold shape_Heights.l1
   repeat' first
   | (with_reducible exact ih0 _ _ _ _ _)
   | (with_reducible exact ih1 _ _ _ _ _ _ _ _ _ _ _)
   | (with_reducible exact shape_reach.mono _ _ _ _ _)
   | (with_reducible exact LeO.refl _)
   | (with_reducible exact LeO.none _)
   | (with_reducible refine LeO.ite ?_ ?_)
   | (with_reducible refine LeO.bind ?_ (fun _ => ?_))
   | exact ih0 _ _ _ _ _
   | exact ih1 _ _ _ _ _ _ _ _ _ _ _
   | exact shape_reach.mono _ _ _ _ _
   | exact LeO.none _
   | refine LeO.ite ?_ ?_
   | refine LeO.bind ?_ (fun _ => ?_)
theorem shape_Heights.mono : ∀ a0 a1 k, LeO (shape_Heights.f k a0 a1) (shape_Heights.f (k + 1) a0 a1) := by
 intro a0 a1 k
 obtain ⟨ih0, ih1⟩ := shape_Heights.mono_l k
 unfold shape_Heights.f
 repeat' first
   | (with_reducible exact ih0 _ _ _ _ _)
   | (with_reducible exact ih1 _ _ _ _ _ _ _ _ _ _ _)
   | (with_reducible exact shape_reach.mono _ _ _ _ _)
   | (with_reducible exact LeO.refl _)
   | (with_reducible exact LeO.none _)
   | (with_reducible refine LeO.ite ?_ ?_)
   | (with_reducible refine LeO.bind ?_ (fun _ => ?_))
   | exact ih0 _ _ _ _ _
   | exact ih1 _ _ _ _ _ _ _ _ _ _ _
   | exact shape_reach.mono _ _ _ _ _
   | exact LeO.none _
   | refine LeO.ite ?_ ?_
   | refine LeO.bind ?_ (fun _ => ?_)
set_option maxHeartbeats 8000000 in
set_option maxRecDepth 100000 in
theorem shape_Heights.calls (k : Nat) (A0_0 : Option Addr) (c0_0 : Nat) (l0_0 : List Int) (A0_1 : Option Addr) (c0_1 : Nat) (l0_1 : List (List (S60))) (r : List Int) (w : World) (hr0_0 : Kd.C (Kd.int .i64) w A0_0 l0_0.length l0_0) (hc0_0 : l0_0.length ≤ c0_0) (hr0_1 : Kd.C (Kd.slice 60 k60) w A0_1 l0_1.length l0_1) (hc0_1 : l0_1.length ≤ c0_1) (h : shape_Heights.f k l0_0 l0_1 = some r) :
  Calls Try.prog 107 #[.agg #[.slice A0_0 l0_0.length c0_0, .slice A0_1 l0_1.length c0_1]] w fun e w' => ∃ v0_ : Value, e = .returned (v0_) ∧ Kd.R (Kd.int .i64) 3 w' w.heap.size (fun _ => True) v0_ r ∧ Below w.heap.size w w' := by
 have hu27 := Try.underlying27
 have hu60 := Try.underlying60
 have HR0_0 := Aside0.mk hr0_0
 have HC0_0 := Aside0.mk hc0_0
 clear hr0_0 hc0_0
 have HR0_1 := Aside0.mk hr0_1
 have HC0_1 := Aside0.mk hc0_1
 clear hr0_1 hc0_1
 have HB := Aside0.mk (Below.refl w.heap.size w)
 have H : (if 0 ≤ (l0_1.length : Int) then (if ((l0_1.length : Int) : Int).toNat ≤ 35184372088832 then (shape_Heights.l0 k (List.replicate ((l0_1.length : Int) : Int).toNat 0) (l0_1.length : Int) 0 l0_0 l0_1) else (none)) else (none)) = some r := h
 clear h
 by_cases c2 : 0 ≤ (l0_1.length : Int)
 ·
  rw [if_pos c2] at H
  have c2b0 := eq_true c2
  have c2b1 : decide (0 ≤ (l0_1.length : Int)) = true := decide_eq_true c2
  clear c2
  by_cases c3 : ((l0_1.length : Int) : Int).toNat ≤ 35184372088832
  ·
   rw [if_pos c3] at H
   have c3b0 := eq_true c3
   have c3b1 : decide (((l0_1.length : Int) : Int).toNat ≤ 35184372088832) = true := decide_eq_true c3
   clear c3
   obtain ⟨y778, hy778⟩ : ∃ y_ : List Int, y_ = (List.replicate ((l0_1.length : Int) : Int).toNat 0) := ⟨_, rfl⟩
   replace H : (shape_Heights.l0 k y778 (l0_1.length : Int) 0 l0_0 l0_1) = some r := by first | (rw [hy778]; with_reducible exact H) | (have H2_ := (Option.bind_some _ _).symm.trans H; rw [hy778]; with_reducible exact H2_) | (have H2_ := (Option.bind_some _ _).symm.trans H; with_reducible exact H2_) | with_reducible exact H | (rw [hy778]; exact H) | exact H
   have Ny778 := Aside0.mk hy778
   clear hy778
   have H' := Aside0.mk H
   clear H
   go_enter Try.func107, Try.ntmps107
   go_wp2_with (first | ((with_reducible refine gate_dst (N := 1) rfl ?_); refine box_event ?hg (N := 1) ?hd (cs := #[.slice A0_0 l0_0.length c0_0, .slice A0_1 l0_1.length c0_1]) (t := 27) ?hr ?_; (case hd => rfl); (case hg => rfl); (case hr => first | (go_simp; done) | (go_simp; rfl)); intro gb777 hg w4 hbox hb; have n0_ := Aside0.mk (below_step (by repeat (first | (with_reducible first | exact HB.out | apply below_alloc | apply pw_below_drewN | apply below_drew1) | exact HB.out)) hb); have n1_ := Aside0.mk (hbox); have n2_ := Aside0.mk ((by rw [hg]; exact (below_size (by repeat (first | (with_reducible first | exact HB.out | apply below_alloc | apply pw_below_drewN | apply below_drew1) | exact HB.out))) : w.heap.size ≤ gb777)); have n3_ := Aside0.mk ((by rw [hg]; exact (below_size (by repeat (first | (with_reducible first | exact HB.out | apply below_alloc | apply pw_below_drewN | apply below_drew1) | exact HB.out))) : w.heap.size ≤ gb777)); clear HB; have HB := n0_; have BK777 := n1_; have GW777 := n2_; have GE777 := n3_; clear n0_ n1_ n2_ n3_; clear hb hbox hg; have hcz5_0 : w4.cell? ⟨gb777, 0, none⟩ = some (.slice A0_0 l0_0.length c0_0) := (blk_cell BK777.out 0).trans rfl; have hcz5_1 : w4.cell? ⟨gb777, 1, none⟩ = some (.slice A0_1 l0_1.length c0_1) := (blk_cell BK777.out 1).trans rfl; have hfz5_0 := blk_frozen BK777.out 0; have hfz5_1 := blk_frozen BK777.out 1) | ((with_reducible refine gate_dst (N := 13) rfl ?_); refine Kd.R_make (Kd.int .i64) _ 3 rfl (N := 13) rfl 22 _ _ rfl (l0_1.length : Int) rfl rfl Try.underlying22 (.int .i64 0) 8 info3 rfl (by decide) (by omega) 0 (ok := fun _ => True) (okp := fun _ => True) rfl (fun _ hk => hk) trivial (of_decide_eq_true (by first | (with_reducible assumption) | assumption)) (Nat.le_trans (Nat.mul_le_mul_right _ (of_decide_eq_true (by first | (with_reducible assumption) | assumption) : (l0_1.length : Int).toNat ≤ 35184372088832)) (by omega)) (Below.refl _ _) (Nat.le_refl _) ?_; intro v779 w6 ho7 hb hg_ hnew_; clear hg_ hnew_; (first | rw [← Ny778.out] at ho7 | (simp only [Int.reduceToNat] at ho7; rw [← Ny778.out] at ho7)); have n0_ := Aside0.mk (Kd.R_lower ho7 (below_size (by repeat (first | (with_reducible first | exact HB.out | apply below_alloc | apply pw_below_drewN | apply below_drew1 | refine below_set ?_ GE777.out) | exact HB.out)))); have n1_ := Aside0.mk (blk_below (g := gb777) (o := .cells #[.slice A0_0 l0_0.length c0_0, .slice A0_1 l0_1.length c0_1] 27 (0, 0)) (by (with_reducible repeat (first | refine blk_drewN ?_ _ | refine blk_drew ?_ | refine blk_alloc ?_ _)); exact BK777.out) hb); have n2_ := Aside0.mk (below_step (by repeat (first | (with_reducible first | exact HB.out | apply below_alloc | apply pw_below_drewN | apply below_drew1 | refine below_set ?_ GE777.out) | exact HB.out)) hb); clear BK777; clear HB; have HO780 := n0_; have BK777 := n1_; have HB := n2_; clear n0_ n1_ n2_; clear hb ho7; have hcz8_0 : w6.cell? ⟨gb777, 0, none⟩ = some (.slice A0_0 l0_0.length c0_0) := (blk_cell BK777.out 0).trans rfl; have hcz8_1 : w6.cell? ⟨gb777, 1, none⟩ = some (.slice A0_1 l0_1.length c0_1) := (blk_cell BK777.out 1).trans rfl; have hfz8_0 := blk_frozen BK777.out 0; have hfz8_1 := blk_frozen BK777.out 1))
   go_loopg [17] k (fun kq v17 w' => ∃ (x3_1 : List Int) (x17_1 : Int), v17 = .int .i64 x17_1 ∧ Aside0 (shape_Heights.l0 kq x3_1 (l0_1.length : Int) x17_1 l0_0 l0_1 = some r) ∧ Aside0 (kq ≤ k) ∧ Aside0 (Kd.R (Kd.int .i64) 3 w' w.heap.size (fun _ => True) v779 x3_1) ∧ Aside0 (w'.heap[gb777]? = some (.cells #[(.slice A0_0 l0_0.length c0_0), (.slice A0_1 l0_1.length c0_1)] 27 (0, 0))) ∧ Aside0 (Below w.heap.size w w'))
   case atStart => exact ⟨(y778), (0), (by first | rfl | (simp; done) | (simp [*]; done)), H', ⟨Nat.le_refl _⟩, ⟨by (with_reducible repeat (first | apply Kd.R_alloc | apply Kd.R_drewN | apply Kd.R_drew)); exact HO780.out⟩, ⟨by (with_reducible repeat (first | refine blk_drewN ?_ _ | refine blk_drew ?_ | refine blk_alloc ?_ _)); exact BK777.out⟩, ⟨by repeat (first | (with_reducible first | exact HB.out | apply below_alloc | apply pw_below_drewN | apply below_drew1 | refine below_set ?_ GE777.out) | exact HB.out)⟩⟩
   case round =>
    clear H'
    try clear c1
    try clear c2
    try clear c2b0
    try clear c2b1
    try clear p2
    try clear c3
    try clear c3b0
    try clear c3b1
    try clear hcz5_0
    try clear hcz5_1
    try clear hcz8_0
    try clear hcz8_1
    try clear hfz5_0
    try clear hfz5_1
    try clear hfz8_0
    try clear hfz8_1
    obtain ⟨x3_1, x17_1, rfl, HA, HK1, HO_3, BK777, HB⟩ := hrel
    cases gk with
    | zero => exact absurd HA.out (by simp [shape_Heights.l0])
    | succ k1 =>
     have H := HA.out
     clear HA
     simp only [shape_Heights.l0] at H
     by_cases c9 : x17_1 < (l0_1.length : Int)
     ·
      rw [if_pos c9] at H
      have c9b0 : decide (x17_1 < (l0_1.length : Int)) = true := decide_eq_true c9
      clear c9
      by_cases c10 : 0 ≤ x17_1
      ·
       rw [if_pos c10] at H
       have c10b0 : decide (0 ≤ x17_1) = true := decide_eq_true c10
       clear c10
       by_cases c11 : x17_1 < (l0_1.length : Int)
       ·
        rw [if_pos c11] at H
        have c11b0 : decide (x17_1 < (l0_1.length : Int)) = true := decide_eq_true c11
        clear c11
        have H' := Aside0.mk H
        clear H
        have hcz12_0 : wr.cell? ⟨gb777, 0, none⟩ = some (.slice A0_0 l0_0.length c0_0) := (blk_cell BK777.out 0).trans rfl
        have hcz12_1 : wr.cell? ⟨gb777, 1, none⟩ = some (.slice A0_1 l0_1.length c0_1) := (blk_cell BK777.out 1).trans rfl
        have hfz12_0 := blk_frozen BK777.out 0
        have hfz12_1 := blk_frozen BK777.out 1
        have p781 : 0 ≤ (x17_1 : Int) := of_decide_eq_true (by first | (with_reducible assumption) | assumption)
        have q781 : x17_1 < (l0_1.length : Int) := of_decide_eq_true (by first | (with_reducible assumption) | assumption)
        obtain ⟨ad781, A781_0, c781_0, e781, hx781_0, hl781_0, hi781_0⟩ := at_L2 HR0_1.out x17_1 p781 q781
        cases e781
        replace hx781_0 := (HB.out.cell (World.block_lt_of_cell? w _ hx781_0)).trans hx781_0
        have HR781_0 := Aside0.mk hi781_0
        have HC781_0 := Aside0.mk hl781_0
        clear hi781_0 hl781_0
        replace p781 := eq_true p781
        replace q781 := eq_true q781
        go_wp2
        go_loopg [5, 6, 26] k1 (fun kq v5 v6 v26 w' => ∃ (x5_2 : Int) (x6_2 : Int) (x26_2 : Int), v5 = .int .i64 x5_2 ∧ v6 = .int .i64 x6_2 ∧ v26 = .int .i64 x26_2 ∧ Aside0 (shape_Heights.l1 kq x3_1 x17_1 x5_2 x6_2 (l0_1.length : Int) x17_1 (rd_L2 l0_1 x17_1) ((rd_L2 l0_1 x17_1).length : Int) x26_2 l0_0 l0_1 = some r) ∧ Aside0 (kq ≤ k1) ∧ Aside0 (Kd.R (Kd.int .i64) 3 w' w.heap.size (fun _ => True) v779 x3_1) ∧ Aside0 (w'.heap[gb777]? = some (.cells #[(.slice A0_0 l0_0.length c0_0), (.slice (some ad781) l0_1.length c0_1)] 27 (0, 0))) ∧ Aside0 (Below w.heap.size w w'))
        case atStart => exact ⟨(0), (0), (0), (by first | rfl | (simp; done) | (simp [*]; done)), (by first | rfl | (simp; done) | (simp [*]; done)), (by first | rfl | (simp; done) | (simp [*]; done)), H', ⟨Nat.le_refl _⟩, ⟨by (with_reducible repeat (first | apply Kd.R_alloc | apply Kd.R_drewN | apply Kd.R_drew)); exact HO_3.out⟩, ⟨by (with_reducible repeat (first | refine blk_drewN ?_ _ | refine blk_drew ?_ | refine blk_alloc ?_ _)); exact BK777.out⟩, ⟨by repeat (first | (with_reducible first | exact HB.out | apply below_alloc | apply pw_below_drewN | apply below_drew1 | refine below_set ?_ GE777.out) | exact HB.out)⟩⟩
        case round =>
         clear H'
         try clear c1
         try clear c2
         try clear c2b0
         try clear c2b1
         try clear p2
         try clear c3
         try clear c3b0
         try clear c3b1
         try clear c7
         try clear p7
         try clear q7
         try clear hx7
         try clear c9
         try clear c9b0
         try clear c10
         try clear c10b0
         try clear c11
         try clear c11b0
         try clear hcz12_0
         try clear hcz12_1
         try clear hcz5_0
         try clear hcz5_1
         try clear hcz8_0
         try clear hcz8_1
         try clear hfz12_0
         try clear hfz12_1
         try clear hfz5_0
         try clear hfz5_1
         try clear hfz8_0
         try clear hfz8_1
         try clear hx781_0
         try clear p2
         try clear p781
         try clear q781
         obtain ⟨x5_2, x6_2, x26_2, rfl, rfl, rfl, HA, HK2, HO_3, BK777, HB⟩ := hrel
         cases gk with
         | zero => exact absurd HA.out (by simp [shape_Heights.l1])
         | succ k2 =>
          have H := HA.out
          clear HA
          simp only [shape_Heights.l1] at H
          by_cases c13 : x26_2 < ((rd_L2 l0_1 x17_1).length : Int)
          ·
           rw [if_pos c13] at H
           have c13b0 : decide (x26_2 < ((rd_L2 l0_1 x17_1).length : Int)) = true := decide_eq_true c13
           clear c13
           by_cases c14 : 0 ≤ x26_2
           ·
            rw [if_pos c14] at H
            have c14b0 : decide (0 ≤ x26_2) = true := decide_eq_true c14
            clear c14
            by_cases c15 : x26_2 < ((rd_L2 l0_1 x17_1).length : Int)
            ·
             rw [if_pos c15] at H
             have c15b0 : decide (x26_2 < ((rd_L2 l0_1 x17_1).length : Int)) = true := decide_eq_true c15
             clear c15
             replace H := Option.bind_eq_some_iff.mp H
             obtain ⟨t784, A160, H⟩ := H
             replace H : (if t784 > x5_2 then (shape_Heights.l1 k2 x3_1 x17_1 t784 x5_2 (l0_1.length : Int) x17_1 (rd_L2 l0_1 x17_1) ((rd_L2 l0_1 x17_1).length : Int) (wrap64 (x26_2 + 1)) l0_0 l0_1) else (shape_Heights.l1 k2 x3_1 x17_1 x5_2 (mx x6_2 t784) (l0_1.length : Int) x17_1 (rd_L2 l0_1 x17_1) ((rd_L2 l0_1 x17_1).length : Int) (wrap64 (x26_2 + 1)) l0_0 l0_1)) = some r := H
             have A16 := Aside0.mk A160
             clear A160
             by_cases c17 : t784 > x5_2
             ·
              rw [if_pos c17] at H
              have c17b0 : decide (x5_2 < t784) = true := decide_eq_true c17
              clear c17
              have H' := Aside0.mk H
              clear H
              have p782 : 0 ≤ (x26_2 : Int) := of_decide_eq_true (by first | (with_reducible assumption) | assumption)
              have q782 : x26_2 < ((rd_L2 l0_1 x17_1).length : Int) := of_decide_eq_true (by first | (with_reducible assumption) | assumption)
              obtain ⟨ad782, e782, hx782_0, hx782_1⟩ := at_T60 HR781_0.out x26_2 p782 q782
              cases e782
              replace hx782_0 := (HB.out.cell (World.block_lt_of_cell? w _ hx782_0)).trans hx782_0
              replace hx782_1 := (HB.out.cell (World.block_lt_of_cell? w _ hx782_1)).trans hx782_1
              replace p782 := eq_true p782
              replace q782 := eq_true q782
              go_wp2_with (first | ((with_reducible refine gate_dst (N := 8) rfl ?_); refine box_event ?hg (N := 8) ?hd (cs := #[.int .i64 0, .int .i64 0]) (t := 60) ?hr ?_; (case hd => rfl); (case hg => rfl); (case hr => first | (go_simp; done) | (go_simp; rfl)); intro gb783 hg w18 hbox hb; have n0_ := Aside0.mk (Kd.R_below (by (with_reducible repeat (first | apply Kd.R_alloc | apply Kd.R_drewN | apply Kd.R_drew)); exact HO_3.out) hb); have n1_ := Aside0.mk (blk_below (g := gb777) (o := .cells #[.slice A0_0 l0_0.length c0_0, .slice (some ad781) l0_1.length c0_1] 27 (0, 0)) (by (with_reducible repeat (first | refine blk_drewN ?_ _ | refine blk_drew ?_ | refine blk_alloc ?_ _)); exact BK777.out) hb); have n2_ := Aside0.mk (below_step (by repeat (first | (with_reducible first | exact HB.out | apply below_alloc | apply pw_below_drewN | apply below_drew1 | refine below_set ?_ GE777.out) | exact HB.out)) hb); have n3_ := Aside0.mk (hbox); have n4_ := Aside0.mk ((by rw [hg]; exact (below_size (by repeat (first | (with_reducible first | exact HB.out | apply below_alloc | apply pw_below_drewN | apply below_drew1 | refine below_set ?_ GE777.out) | exact HB.out))) : w.heap.size ≤ gb783)); have n5_ := Aside0.mk ((by rw [hg]; exact (below_size (by repeat (first | (with_reducible first | exact HB.out | apply below_alloc | apply pw_below_drewN | apply below_drew1 | refine below_set ?_ GE777.out) | exact HB.out))) : w.heap.size ≤ gb783)); have n6_ := Aside0.mk ((by rw [hg]; exact Nat.ne_of_lt (blk_lt (g := gb777) (o := .cells #[.slice A0_0 l0_0.length c0_0, .slice (some ad781) l0_1.length c0_1] 27 (0, 0)) (by (with_reducible repeat (first | refine blk_drewN ?_ _ | refine blk_drew ?_ | refine blk_alloc ?_ _)); exact BK777.out)) : gb777 ≠ gb783)); have n7_ := Aside0.mk ((by rw [hg]; exact Nat.ne_of_gt (blk_lt (g := gb777) (o := .cells #[.slice A0_0 l0_0.length c0_0, .slice (some ad781) l0_1.length c0_1] 27 (0, 0)) (by (with_reducible repeat (first | refine blk_drewN ?_ _ | refine blk_drew ?_ | refine blk_alloc ?_ _)); exact BK777.out)) : gb783 ≠ gb777)); clear HO_3; clear BK777; clear HB; have HO_3 := n0_; have BK777 := n1_; have HB := n2_; have BK783 := n3_; have GW783 := n4_; have GE783 := n5_; have NB777_783 := n6_; have NB783_777 := n7_; clear n0_ n1_ n2_ n3_ n4_ n5_ n6_ n7_; clear hb hbox hg; have hnb19 := NB783_777.out; have hnc19 := NB777_783.out; have hcz20_0 : w18.cell? ⟨gb783, 0, none⟩ = some (.int .i64 0) := (blk_cell BK783.out 0).trans rfl; have hcz20_1 : w18.cell? ⟨gb783, 1, none⟩ = some (.int .i64 0) := (blk_cell BK783.out 1).trans rfl; have hfz20_0 := blk_frozen BK783.out 0; have hfz20_1 := blk_frozen BK783.out 1; have hcz21_0 : w18.cell? ⟨gb777, 0, none⟩ = some (.slice A0_0 l0_0.length c0_0) := (blk_cell BK777.out 0).trans rfl; have hcz21_1 : w18.cell? ⟨gb777, 1, none⟩ = some (.slice (some ad781) l0_1.length c0_1) := (blk_cell BK777.out 1).trans rfl; have hfz21_0 := blk_frozen BK777.out 0; have hfz21_1 := blk_frozen BK777.out 1) | ((with_reducible refine gate_callee (f := 130) rfl ?_); refine goesL_ (some 34) rfl rfl Try.func130 (by kernel_rfl) rfl #[.agg #[.slice A0_0 l0_0.length c0_0, .slice (some ad781) l0_1.length c0_1], .int .i64 x17_1, .int .i64 ((rd_T60 (rd_L2 l0_1 x17_1) x26_2).f0)] rfl (by (try simp only [List.map_toArray, List.map_cons, List.map_nil]); first | done | rfl | (simp only [List.length_drop, List.length_take]; rfl)) ?_; (with_reducible refine (shape_reach.calls k2 _ _ l0_0 _ _ l0_1 x17_1 ((rd_T60 (rd_L2 l0_1 x17_1) x26_2).f0) t784 _ ?side1 ?side2 ?side3 ?side4 A16.out).mono ?_); (case side1 => exact Kd.C_below HR0_0.out (by repeat (first | (with_reducible first | exact HB.out | apply below_alloc | apply pw_below_drewN | apply below_drew1 | refine below_set ?_ GE777.out | refine below_set ?_ GE783.out) | exact HB.out))); (case side2 => exact HC0_0.out); (case side3 => exact Kd.C_below HR0_1.out (by repeat (first | (with_reducible first | exact HB.out | apply below_alloc | apply pw_below_drewN | apply below_drew1 | refine below_set ?_ GE777.out | refine below_set ?_ GE783.out) | exact HB.out))); (case side4 => exact HC0_1.out); rintro e w22 ⟨rfl, hb⟩; refine ⟨_, rfl, ?_⟩; have n0_ := Aside0.mk (Kd.R_below (by (with_reducible repeat (first | apply Kd.R_alloc | apply Kd.R_drewN | apply Kd.R_drew)); exact (Kd.R_mono (Kd.R_far (p := ⟨gb783, 1, none⟩) (Kd.R_far (p := ⟨gb783, 0, none⟩) (Kd.R_types HO_3.out BK783.out (by decide)) (fun _ hk => hk.2) (.int .i64 ((rd_T60 (rd_L2 l0_1 x17_1) x26_2).f0))) (fun _ hk => hk.2) (.int .i64 ((rd_T60 (rd_L2 l0_1 x17_1) x26_2).f1))) (fun _ h_ => h_.1))) hb); have n1_ := Aside0.mk (blk_below (g := gb777) (o := .cells #[.slice A0_0 l0_0.length c0_0, .slice (some ad781) l0_1.length c0_1] 27 (0, 0)) (by (with_reducible repeat (first | refine blk_drewN ?_ _ | refine blk_drew ?_ | refine blk_alloc ?_ _)); refine blk_far ?_ NB777_783.out _; (with_reducible repeat (first | refine blk_drewN ?_ _ | refine blk_drew ?_ | refine blk_alloc ?_ _)); refine blk_far ?_ NB777_783.out _; (with_reducible repeat (first | refine blk_drewN ?_ _ | refine blk_drew ?_ | refine blk_alloc ?_ _)); exact BK777.out) hb); have n2_ := Aside0.mk (blk_below (g := gb783) (o := .cells #[.int .i64 ((rd_T60 (rd_L2 l0_1 x17_1) x26_2).f0), .int .i64 ((rd_T60 (rd_L2 l0_1 x17_1) x26_2).f1)] 60 (0, 0)) (by (with_reducible repeat (first | refine blk_drewN ?_ _ | refine blk_drew ?_ | refine blk_alloc ?_ _)); refine blk_put (cs := #[.int .i64 ((rd_T60 (rd_L2 l0_1 x17_1) x26_2).f0), .int .i64 0]) ?_ 1 _ rfl; (with_reducible repeat (first | refine blk_drewN ?_ _ | refine blk_drew ?_ | refine blk_alloc ?_ _)); refine blk_put (cs := #[.int .i64 0, .int .i64 0]) ?_ 0 _ rfl; (with_reducible repeat (first | refine blk_drewN ?_ _ | refine blk_drew ?_ | refine blk_alloc ?_ _)); exact BK783.out) hb); have n3_ := Aside0.mk (below_step (by repeat (first | (with_reducible first | exact HB.out | apply below_alloc | apply pw_below_drewN | apply below_drew1 | refine below_set ?_ GE777.out | refine below_set ?_ GE783.out) | exact HB.out)) hb); clear HO_3; clear BK777; clear BK783; clear HB; have HO_3 := n0_; have BK777 := n1_; have BK783 := n2_; have HB := n3_; clear n0_ n1_ n2_ n3_; (try clear hb); (try clear hb2); (try clear hk); (try clear hi)))
              go_roundg k2
              case measure => have := HK1.out; have := HK2.out; omega
              case rel => exact ⟨(t784), (x5_2), (wrap64 (x26_2 + 1)), (by first | rfl | (simp; done) | (simp [*]; done)), (by first | rfl | (simp; done) | (simp [*]; done)), (by first | rfl | (simp; done) | (simp [*]; done)), H', ⟨by have := HK1.out; have := HK2.out; omega⟩, ⟨by (with_reducible repeat (first | apply Kd.R_alloc | apply Kd.R_drewN | apply Kd.R_drew)); exact HO_3.out⟩, ⟨by (with_reducible repeat (first | refine blk_drewN ?_ _ | refine blk_drew ?_ | refine blk_alloc ?_ _)); exact BK777.out⟩, ⟨by repeat (first | (with_reducible first | exact HB.out | apply below_alloc | apply pw_below_drewN | apply below_drew1 | refine below_set ?_ GE777.out | refine below_set ?_ GE783.out) | exact HB.out)⟩⟩
             ·
              rw [if_neg c17] at H
              have c17b0 : decide (x5_2 < t784) = false := decide_eq_false c17
              clear c17
              obtain ⟨ji23, hji23⟩ : ∃ j_ : Int, (mx x6_2 t784) = j_ := ⟨_, rfl⟩
              replace H : (shape_Heights.l1 k2 x3_1 x17_1 x5_2 ji23 (l0_1.length : Int) x17_1 (rd_L2 l0_1 x17_1) ((rd_L2 l0_1 x17_1).length : Int) (wrap64 (x26_2 + 1)) l0_0 l0_1) = some r := by first | (rw [hji23] at H; exact H) | (simp only [hji23] at H ⊢; exact H)
              (try rw [hji23] at A16)
              have hji23_ : (if x6_2 < t784 then t784 else x6_2) = ji23 := hji23
              have H' := Aside0.mk H
              clear H
              have p782 : 0 ≤ (x26_2 : Int) := of_decide_eq_true (by first | (with_reducible assumption) | assumption)
              have q782 : x26_2 < ((rd_L2 l0_1 x17_1).length : Int) := of_decide_eq_true (by first | (with_reducible assumption) | assumption)
              obtain ⟨ad782, e782, hx782_0, hx782_1⟩ := at_T60 HR781_0.out x26_2 p782 q782
              cases e782
              replace hx782_0 := (HB.out.cell (World.block_lt_of_cell? w _ hx782_0)).trans hx782_0
              replace hx782_1 := (HB.out.cell (World.block_lt_of_cell? w _ hx782_1)).trans hx782_1
              replace p782 := eq_true p782
              replace q782 := eq_true q782
              go_wp2_with (first | ((with_reducible refine gate_dst (N := 8) rfl ?_); refine box_event ?hg (N := 8) ?hd (cs := #[.int .i64 0, .int .i64 0]) (t := 60) ?hr ?_; (case hd => rfl); (case hg => rfl); (case hr => first | (go_simp; done) | (go_simp; rfl)); intro gb783 hg w24 hbox hb; have n0_ := Aside0.mk (Kd.R_below (by (with_reducible repeat (first | apply Kd.R_alloc | apply Kd.R_drewN | apply Kd.R_drew)); exact HO_3.out) hb); have n1_ := Aside0.mk (blk_below (g := gb777) (o := .cells #[.slice A0_0 l0_0.length c0_0, .slice (some ad781) l0_1.length c0_1] 27 (0, 0)) (by (with_reducible repeat (first | refine blk_drewN ?_ _ | refine blk_drew ?_ | refine blk_alloc ?_ _)); exact BK777.out) hb); have n2_ := Aside0.mk (below_step (by repeat (first | (with_reducible first | exact HB.out | apply below_alloc | apply pw_below_drewN | apply below_drew1 | refine below_set ?_ GE777.out) | exact HB.out)) hb); have n3_ := Aside0.mk (hbox); have n4_ := Aside0.mk ((by rw [hg]; exact (below_size (by repeat (first | (with_reducible first | exact HB.out | apply below_alloc | apply pw_below_drewN | apply below_drew1 | refine below_set ?_ GE777.out) | exact HB.out))) : w.heap.size ≤ gb783)); have n5_ := Aside0.mk ((by rw [hg]; exact (below_size (by repeat (first | (with_reducible first | exact HB.out | apply below_alloc | apply pw_below_drewN | apply below_drew1 | refine below_set ?_ GE777.out) | exact HB.out))) : w.heap.size ≤ gb783)); have n6_ := Aside0.mk ((by rw [hg]; exact Nat.ne_of_lt (blk_lt (g := gb777) (o := .cells #[.slice A0_0 l0_0.length c0_0, .slice (some ad781) l0_1.length c0_1] 27 (0, 0)) (by (with_reducible repeat (first | refine blk_drewN ?_ _ | refine blk_drew ?_ | refine blk_alloc ?_ _)); exact BK777.out)) : gb777 ≠ gb783)); have n7_ := Aside0.mk ((by rw [hg]; exact Nat.ne_of_gt (blk_lt (g := gb777) (o := .cells #[.slice A0_0 l0_0.length c0_0, .slice (some ad781) l0_1.length c0_1] 27 (0, 0)) (by (with_reducible repeat (first | refine blk_drewN ?_ _ | refine blk_drew ?_ | refine blk_alloc ?_ _)); exact BK777.out)) : gb783 ≠ gb777)); clear HO_3; clear BK777; clear HB; have HO_3 := n0_; have BK777 := n1_; have HB := n2_; have BK783 := n3_; have GW783 := n4_; have GE783 := n5_; have NB777_783 := n6_; have NB783_777 := n7_; clear n0_ n1_ n2_ n3_ n4_ n5_ n6_ n7_; clear hb hbox hg; have hnb25 := NB783_777.out; have hnc25 := NB777_783.out; have hcz26_0 : w24.cell? ⟨gb783, 0, none⟩ = some (.int .i64 0) := (blk_cell BK783.out 0).trans rfl; have hcz26_1 : w24.cell? ⟨gb783, 1, none⟩ = some (.int .i64 0) := (blk_cell BK783.out 1).trans rfl; have hfz26_0 := blk_frozen BK783.out 0; have hfz26_1 := blk_frozen BK783.out 1; have hcz27_0 : w24.cell? ⟨gb777, 0, none⟩ = some (.slice A0_0 l0_0.length c0_0) := (blk_cell BK777.out 0).trans rfl; have hcz27_1 : w24.cell? ⟨gb777, 1, none⟩ = some (.slice (some ad781) l0_1.length c0_1) := (blk_cell BK777.out 1).trans rfl; have hfz27_0 := blk_frozen BK777.out 0; have hfz27_1 := blk_frozen BK777.out 1) | ((with_reducible refine gate_callee (f := 130) rfl ?_); refine goesL_ (some 34) rfl rfl Try.func130 (by kernel_rfl) rfl #[.agg #[.slice A0_0 l0_0.length c0_0, .slice (some ad781) l0_1.length c0_1], .int .i64 x17_1, .int .i64 ((rd_T60 (rd_L2 l0_1 x17_1) x26_2).f0)] rfl (by (try simp only [List.map_toArray, List.map_cons, List.map_nil]); first | done | rfl | (simp only [List.length_drop, List.length_take]; rfl)) ?_; (with_reducible refine (shape_reach.calls k2 _ _ l0_0 _ _ l0_1 x17_1 ((rd_T60 (rd_L2 l0_1 x17_1) x26_2).f0) t784 _ ?side1 ?side2 ?side3 ?side4 A16.out).mono ?_); (case side1 => exact Kd.C_below HR0_0.out (by repeat (first | (with_reducible first | exact HB.out | apply below_alloc | apply pw_below_drewN | apply below_drew1 | refine below_set ?_ GE777.out | refine below_set ?_ GE783.out) | exact HB.out))); (case side2 => exact HC0_0.out); (case side3 => exact Kd.C_below HR0_1.out (by repeat (first | (with_reducible first | exact HB.out | apply below_alloc | apply pw_below_drewN | apply below_drew1 | refine below_set ?_ GE777.out | refine below_set ?_ GE783.out) | exact HB.out))); (case side4 => exact HC0_1.out); rintro e w28 ⟨rfl, hb⟩; refine ⟨_, rfl, ?_⟩; have n0_ := Aside0.mk (Kd.R_below (by (with_reducible repeat (first | apply Kd.R_alloc | apply Kd.R_drewN | apply Kd.R_drew)); exact (Kd.R_mono (Kd.R_far (p := ⟨gb783, 1, none⟩) (Kd.R_far (p := ⟨gb783, 0, none⟩) (Kd.R_types HO_3.out BK783.out (by decide)) (fun _ hk => hk.2) (.int .i64 ((rd_T60 (rd_L2 l0_1 x17_1) x26_2).f0))) (fun _ hk => hk.2) (.int .i64 ((rd_T60 (rd_L2 l0_1 x17_1) x26_2).f1))) (fun _ h_ => h_.1))) hb); have n1_ := Aside0.mk (blk_below (g := gb777) (o := .cells #[.slice A0_0 l0_0.length c0_0, .slice (some ad781) l0_1.length c0_1] 27 (0, 0)) (by (with_reducible repeat (first | refine blk_drewN ?_ _ | refine blk_drew ?_ | refine blk_alloc ?_ _)); refine blk_far ?_ NB777_783.out _; (with_reducible repeat (first | refine blk_drewN ?_ _ | refine blk_drew ?_ | refine blk_alloc ?_ _)); refine blk_far ?_ NB777_783.out _; (with_reducible repeat (first | refine blk_drewN ?_ _ | refine blk_drew ?_ | refine blk_alloc ?_ _)); exact BK777.out) hb); have n2_ := Aside0.mk (blk_below (g := gb783) (o := .cells #[.int .i64 ((rd_T60 (rd_L2 l0_1 x17_1) x26_2).f0), .int .i64 ((rd_T60 (rd_L2 l0_1 x17_1) x26_2).f1)] 60 (0, 0)) (by (with_reducible repeat (first | refine blk_drewN ?_ _ | refine blk_drew ?_ | refine blk_alloc ?_ _)); refine blk_put (cs := #[.int .i64 ((rd_T60 (rd_L2 l0_1 x17_1) x26_2).f0), .int .i64 0]) ?_ 1 _ rfl; (with_reducible repeat (first | refine blk_drewN ?_ _ | refine blk_drew ?_ | refine blk_alloc ?_ _)); refine blk_put (cs := #[.int .i64 0, .int .i64 0]) ?_ 0 _ rfl; (with_reducible repeat (first | refine blk_drewN ?_ _ | refine blk_drew ?_ | refine blk_alloc ?_ _)); exact BK783.out) hb); have n3_ := Aside0.mk (below_step (by repeat (first | (with_reducible first | exact HB.out | apply below_alloc | apply pw_below_drewN | apply below_drew1 | refine below_set ?_ GE777.out | refine below_set ?_ GE783.out) | exact HB.out)) hb); clear HO_3; clear BK777; clear BK783; clear HB; have HO_3 := n0_; have BK777 := n1_; have BK783 := n2_; have HB := n3_; clear n0_ n1_ n2_ n3_; (try clear hb); (try clear hb2); (try clear hk); (try clear hi)))
              go_roundg k2
              case measure => have := HK1.out; have := HK2.out; omega
              case rel => exact ⟨(x5_2), (ji23), (wrap64 (x26_2 + 1)), (by first | rfl | (simp; done) | (simp [*]; done)), (by first | rfl | (simp; done) | (simp only [← hji23] <;> (first | rfl | simp)) | (simp [*]; done)), (by first | rfl | (simp; done) | (simp [*]; done)), H', ⟨by have := HK1.out; have := HK2.out; omega⟩, ⟨by (with_reducible repeat (first | apply Kd.R_alloc | apply Kd.R_drewN | apply Kd.R_drew)); exact HO_3.out⟩, ⟨by (with_reducible repeat (first | refine blk_drewN ?_ _ | refine blk_drew ?_ | refine blk_alloc ?_ _)); exact BK777.out⟩, ⟨by repeat (first | (with_reducible first | exact HB.out | apply below_alloc | apply pw_below_drewN | apply below_drew1 | refine below_set ?_ GE777.out | refine below_set ?_ GE783.out) | exact HB.out)⟩⟩
            ·
             rw [if_neg c15] at H
             exact absurd H (by simp)
           ·
            rw [if_neg c14] at H
            exact absurd H (by simp)
          ·
           rw [if_neg c13] at H
           have c13b0 : decide (x26_2 < ((rd_L2 l0_1 x17_1).length : Int)) = false := decide_eq_false c13
           clear c13
           by_cases c29 : 0 ≤ x17_1
           ·
            rw [if_pos c29] at H
            have c29b0 : decide (0 ≤ x17_1) = true := decide_eq_true c29
            clear c29
            by_cases c30 : x17_1 < (x3_1.length : Int)
            ·
             rw [if_pos c30] at H
             have c30b0 : decide (x17_1 < (x3_1.length : Int)) = true := decide_eq_true c30
             clear c30
             obtain ⟨y785, hy785⟩ : ∃ y_ : List Int, y_ = (x3_1.set (x17_1 : Int).toNat x6_2) := ⟨_, rfl⟩
             replace H : (shape_Heights.l0 k2 y785 (l0_1.length : Int) (wrap64 (x17_1 + 1)) l0_0 l0_1) = some r := by first | (rw [hy785]; with_reducible exact H) | (have H2_ := (Option.bind_some _ _).symm.trans H; rw [hy785]; with_reducible exact H2_) | (have H2_ := (Option.bind_some _ _).symm.trans H; with_reducible exact H2_) | with_reducible exact H | (rw [hy785]; exact H) | exact H
             have Ny785 := Aside0.mk hy785
             clear hy785
             have H' := Aside0.mk H
             clear H
             have p31 : 0 ≤ (x17_1 : Int) := of_decide_eq_true (by first | (with_reducible assumption) | assumption)
             have q31 : (x17_1 : Int) < ((x3_1.length : Int) : Int) := of_decide_eq_true (by first | (with_reducible assumption) | assumption)
             obtain ⟨go31, co31, eo31, gb31, gl31, cl31, HG31⟩ := Kd.R_form HO_3.out (by omega)
             (first | cases eo31 | (injection eo31 with ea_ en_ ec_; (first | subst ea_ | (injection ea_ with ea_; subst ea_)); subst ec_; clear en_))
             have GB31 := Aside0.mk gb31
             have GG31 := Aside0.mk HG31
             clear gb31 gl31 HG31
             obtain ⟨hx31_0, hf31_0⟩ := Kd.R_celln 0 HO_3.out (x17_1 : Int) p31 q31
             replace p31 := eq_true p31
             replace q31 := eq_true q31
             have HP32 := Kd.R_putg HO_3.out (x17_1 : Int) x6_2
             go_wp2_with (first | ((with_reducible refine gate_store (t := 3) (p := 47) rfl ?_); refine store_event (t := 3) (p := 47) (v := ?vo_w33) (w1 := (wr.setCell ⟨go31, (x17_1 : Int).toNat, none⟩ (.int .i64 x6_2))) ?hg ?ho ?hn ?hr ?_; (case ho => rfl); (case hg => rfl); (case hn => rfl); (case hr => first | (go_simp; done) | (go_simp; rfl)); intro w33 hw; have hg : wr.grownBy w33 (some go31) := (by rw [hw]; exact HP32.2); have hp_ : Kd.R (Kd.int .i64) 3 w33 w.heap.size (fun _ => True) (.slice (some ⟨go31, 0, none⟩) x3_1.length co31) y785 := (by rw [hw, Ny785.out]; exact HP32.1); clear HP32; have n0_ := Aside0.mk (hp_); have n1_ := Aside0.mk (blk_grown (g := gb777) (o := .cells #[.slice A0_0 l0_0.length c0_0, .slice (some ad781) l0_1.length c0_1] 27 (0, 0)) (by (with_reducible repeat (first | refine blk_drewN ?_ _ | refine blk_drew ?_ | refine blk_alloc ?_ _)); exact BK777.out) hg (Kd.R_ne HO_3.out BK777.out (by decide))); have n2_ := Aside0.mk ((by rw [hw]; exact below_set (HB.out) GB31.out : Below w.heap.size w w33)); clear HO_3; clear BK777; clear HB; have HO_3 := n0_; have BK777 := n1_; have HB := n2_; clear n0_ n1_ n2_; clear hg hw hp_))
             go_roundg k2
             case measure => have := HK1.out; have := HK2.out; omega
             case rel => exact ⟨(y785), (wrap64 (x17_1 + 1)), (by first | rfl | (simp; done) | (simp [*]; done)), H', ⟨by have := HK1.out; have := HK2.out; omega⟩, ⟨by (with_reducible repeat (first | apply Kd.R_alloc | apply Kd.R_drewN | apply Kd.R_drew)); exact HO_3.out⟩, ⟨by (with_reducible repeat (first | refine blk_drewN ?_ _ | refine blk_drew ?_ | refine blk_alloc ?_ _)); exact BK777.out⟩, ⟨by repeat (first | (with_reducible first | exact HB.out | apply below_alloc | apply pw_below_drewN | apply below_drew1 | refine below_set ?_ GE777.out) | exact HB.out)⟩⟩
            ·
             rw [if_neg c30] at H
             exact absurd H (by simp)
           ·
            rw [if_neg c29] at H
            exact absurd H (by simp)
       ·
        rw [if_neg c11] at H
        exact absurd H (by simp)
      ·
       rw [if_neg c10] at H
       exact absurd H (by simp)
     ·
      rw [if_neg c9] at H
      have c9b0 : decide (x17_1 < (l0_1.length : Int)) = false := decide_eq_false c9
      clear c9
      obtain rfl := Option.some.inj H
      go_wp2
      go_ret
      exact ⟨_, by first | rfl | (simp [errW_none, errW_some] <;> rfl) | (simp [*, errW_none, errW_some] <;> rfl), by (with_reducible repeat (first | apply Kd.R_alloc | apply Kd.R_drewN | apply Kd.R_drew)); exact HO_3.out, by repeat (first | (with_reducible first | exact HB.out | apply below_alloc | apply pw_below_drewN | apply below_drew1 | refine below_set ?_ GE777.out) | exact HB.out)⟩
  ·
   rw [if_neg c3] at H
   exact absurd H (by simp)
 ·
  rw [if_neg c2] at H
  exact absurd H (by simp)
end Go.Proofs.YthapikakneikbaaG
namespace Go.Proofs.YthapikakneikbaaG
open Go.RowKit Go.Proofs.YthapikakneikbaaW.PrintWords Go.Proofs.YthapikakneikbaaW.PrintLast Go.Proofs.YthapikakneikbaaW.PrintMore
attribute [local go_sem] max2_int min2_int max_two min_two max_three min_three max_four min_four   -- for this text's walks alone
set_option linter.unusedVariables false
set_option linter.unusedSimpArgs false
mutual
def selfstabref27_reach.l0 : Nat → Int → Int → Int → Int → List Int → List (List (S60)) → Option (Int)
 | 0, _, _, _, _, _, _ => none
 | k + 1, x1, x7, x8, x9, x867000, x867001 => if 0 ≤ x7 then (if x7 < (x867001.length : Int) then (if x9 < ((rd_L2 x867001 x7).length : Int) then (if 0 ≤ x9 then (if ((rd_T60 (rd_L2 x867001 x7) x9).f0) = x1 then (selfstabref27_reach.l0 k x1 x7 x8 (wrap64 (x9 + 1)) x867000 x867001) else ((selfstabref27_reach.f k x867000 x867001 x7 x9).bind fun t872 => (selfstabref27_reach.l0 k x1 x7 (mx x8 (wrap64 (1 + t872))) (wrap64 (x9 + 1)) x867000 x867001))) else (none)) else (some x8)) else (none)) else (none)
def selfstabref27_reach.f : Nat → List Int → List (List (S60)) → Int → Int → Option (Int)
 | 0, _, _, _, _ => none
 | k + 1, l0_0, l0_1, a1, a2 => if 0 ≤ a1 then (if a1 < (l0_1.length : Int) then (if 0 ≤ a2 then (if a2 < ((rd_L2 l0_1 a1).length : Int) then (selfstabref27_reach.l0 k a1 ((rd_T60 (rd_L2 l0_1 a1) a2).f0) 1 0 l0_0 l0_1) else (none)) else (none)) else (none)) else (none)
end
theorem selfstabref27_reach.mono_l : ∀ k, (∀ y0 y1 y2 y3, LeO (selfstabref27_reach.f k y0 y1 y2 y3) (selfstabref27_reach.f (k + 1) y0 y1 y2 y3)) ∧ (∀ y0 y1 y2 y3 y4 y5, LeO (selfstabref27_reach.l0 k y0 y1 y2 y3 y4 y5) (selfstabref27_reach.l0 (k + 1) y0 y1 y2 y3 y4 y5))
 | 0 => ⟨fun _ _ _ _ r h => by simp [selfstabref27_reach.f] at h, fun _ _ _ _ _ _ r h => by simp [selfstabref27_reach.l0] at h⟩
 | k + 1 => by
  obtain ⟨ih0, ih1⟩ := selfstabref27_reach.mono_l k
  refine ⟨?_, ?_⟩
  ·
   intro y0 y1 y2 y3
   unfold selfstabref27_reach.f
   repeat' first
   | (with_reducible exact ih0 _ _ _ _)
   | (with_reducible exact ih1 _ _ _ _ _ _)
   | (with_reducible exact LeO.refl _)
   | (with_reducible exact LeO.none _)
   | (with_reducible refine LeO.ite ?_ ?_)
   | (with_reducible refine LeO.bind ?_ (fun _ => ?_))
   | exact ih0 _ _ _ _
   | exact ih1 _ _ _ _ _ _
   | exact LeO.none _
   | refine LeO.ite ?_ ?_
   | refine LeO.bind ?_ (fun _ => ?_)
  ·
   intro y0 y1 y2 y3 y4 y5
   unfold selfstabref27_reach.l0
   repeat' first
   | (with_reducible exact ih0 _ _ _ _)
   | (with_reducible exact ih1 _ _ _ _ _ _)
   | (with_reducible exact LeO.refl _)
   | (with_reducible exact LeO.none _)
   | (with_reducible refine LeO.ite ?_ ?_)
   | (with_reducible refine LeO.bind ?_ (fun _ => ?_))
   | exact ih0 _ _ _ _
   | exact ih1 _ _ _ _ _ _
   | exact LeO.none _
   | refine LeO.ite ?_ ?_
   | refine LeO.bind ?_ (fun _ => ?_)
theorem selfstabref27_reach.mono : ∀ a0 a1 a2 a3 k, LeO (selfstabref27_reach.f k a0 a1 a2 a3) (selfstabref27_reach.f (k + 1) a0 a1 a2 a3) := by
 intro a0 a1 a2 a3 k
 obtain ⟨ih0, ih1⟩ := selfstabref27_reach.mono_l k
 exact ih0 a0 a1 a2 a3
set_option maxHeartbeats 8000000 in
set_option maxRecDepth 100000 in
theorem selfstabref27_reach.calls (k : Nat) : ∀ (A0_0 : Option Addr) (c0_0 : Nat) (l0_0 : List Int) (A0_1 : Option Addr) (c0_1 : Nat) (l0_1 : List (List (S60))) (a1 : Int) (a2 : Int) (r : Int) (w : World) (hr0_0 : Kd.C (Kd.int .i64) w A0_0 l0_0.length l0_0) (hc0_0 : l0_0.length ≤ c0_0) (hr0_1 : Kd.C (Kd.slice 60 k60) w A0_1 l0_1.length l0_1) (hc0_1 : l0_1.length ≤ c0_1) (h : selfstabref27_reach.f k l0_0 l0_1 a1 a2 = some r),
  Calls Try.prog 133 #[.agg #[.slice A0_0 l0_0.length c0_0, .slice A0_1 l0_1.length c0_1], .int .i64 a1, .int .i64 a2] w fun e w' => e = .returned (.int .i64 r) ∧ Below w.heap.size w w' := by
 induction k using Nat.strongRecOn with
 | _ k ih =>
 intro A0_0 c0_0 l0_0 A0_1 c0_1 l0_1 a1 a2 r w hr0_0 hc0_0 hr0_1 hc0_1 h
 cases k with
 | zero => exact absurd h (by simp [selfstabref27_reach.f])
 | succ k =>
 simp only [selfstabref27_reach.f] at h
 have hu27 := Try.underlying27
 have HR0_0 := Aside0.mk hr0_0
 have HC0_0 := Aside0.mk hc0_0
 clear hr0_0 hc0_0
 have HR0_1 := Aside0.mk hr0_1
 have HC0_1 := Aside0.mk hc0_1
 clear hr0_1 hc0_1
 have HB := Aside0.mk (Below.refl w.heap.size w)
 have H : (if 0 ≤ a1 then (if a1 < (l0_1.length : Int) then (if 0 ≤ a2 then (if a2 < ((rd_L2 l0_1 a1).length : Int) then (selfstabref27_reach.l0 k a1 ((rd_T60 (rd_L2 l0_1 a1) a2).f0) 1 0 l0_0 l0_1) else (none)) else (none)) else (none)) else (none)) = some r := h
 clear h
 by_cases c4 : 0 ≤ a1
 ·
  rw [if_pos c4] at H
  have c4b0 : decide (0 ≤ a1) = true := decide_eq_true c4
  clear c4
  by_cases c5 : a1 < (l0_1.length : Int)
  ·
   rw [if_pos c5] at H
   have c5b0 : decide (a1 < (l0_1.length : Int)) = true := decide_eq_true c5
   clear c5
   by_cases c6 : 0 ≤ a2
   ·
    rw [if_pos c6] at H
    have c6b0 : decide (0 ≤ a2) = true := decide_eq_true c6
    clear c6
    by_cases c7 : a2 < ((rd_L2 l0_1 a1).length : Int)
    ·
     rw [if_pos c7] at H
     have c7b0 : decide (a2 < ((rd_L2 l0_1 a1).length : Int)) = true := decide_eq_true c7
     clear c7
     have H' := Aside0.mk H
     clear H
     go_enter Try.func133, Try.ntmps133
     go_wp2_with (first | ((with_reducible refine gate_dst (N := 3) rfl ?_); refine box_event ?hg (N := 3) ?hd (cs := #[.slice A0_0 l0_0.length c0_0, .slice A0_1 l0_1.length c0_1]) (t := 27) ?hr ?_; (case hd => rfl); (case hg => rfl); (case hr => first | (go_simp; done) | (go_simp; rfl)); intro gb866 hg w8 hbox hb; have n0_ := Aside0.mk (below_step (by repeat (first | (with_reducible first | exact HB.out | apply below_alloc | apply pw_below_drewN | apply below_drew1) | exact HB.out)) hb); have n1_ := Aside0.mk (hbox); have n2_ := Aside0.mk ((by rw [hg]; exact (below_size (by repeat (first | (with_reducible first | exact HB.out | apply below_alloc | apply pw_below_drewN | apply below_drew1) | exact HB.out))) : w.heap.size ≤ gb866)); have n3_ := Aside0.mk ((by rw [hg]; exact (below_size (by repeat (first | (with_reducible first | exact HB.out | apply below_alloc | apply pw_below_drewN | apply below_drew1) | exact HB.out))) : w.heap.size ≤ gb866)); clear HB; have HB := n0_; have BK866 := n1_; have GW866 := n2_; have GE866 := n3_; clear n0_ n1_ n2_ n3_; clear hb hbox hg; have hcz9_0 : w8.cell? ⟨gb866, 0, none⟩ = some (.slice A0_0 l0_0.length c0_0) := (blk_cell BK866.out 0).trans rfl; have hcz9_1 : w8.cell? ⟨gb866, 1, none⟩ = some (.slice A0_1 l0_1.length c0_1) := (blk_cell BK866.out 1).trans rfl; have hfz9_0 := blk_frozen BK866.out 0; have hfz9_1 := blk_frozen BK866.out 1; have p867 : 0 ≤ (a1 : Int) := of_decide_eq_true (by first | (with_reducible assumption) | assumption); have q867 : a1 < (l0_1.length : Int) := of_decide_eq_true (by first | (with_reducible assumption) | assumption); obtain ⟨ad867, A867_0, c867_0, e867, hx867_0, hl867_0, hi867_0⟩ := at_L2 HR0_1.out a1 p867 q867; cases e867; replace hx867_0 := (HB.out.cell (World.block_lt_of_cell? w _ hx867_0)).trans hx867_0; have HR867_0 := Aside0.mk hi867_0; have HC867_0 := Aside0.mk hl867_0; clear hi867_0 hl867_0; replace p867 := eq_true p867; replace q867 := eq_true q867; have p868 : 0 ≤ (a2 : Int) := of_decide_eq_true (by first | (with_reducible assumption) | assumption); have q868 : a2 < ((rd_L2 l0_1 a1).length : Int) := of_decide_eq_true (by first | (with_reducible assumption) | assumption); obtain ⟨ad868, e868, hx868_0, hx868_1⟩ := at_T60 HR867_0.out a2 p868 q868; cases e868; replace hx868_0 := (HB.out.cell (World.block_lt_of_cell? w _ hx868_0)).trans hx868_0; replace hx868_1 := (HB.out.cell (World.block_lt_of_cell? w _ hx868_1)).trans hx868_1; replace p868 := eq_true p868; replace q868 := eq_true q868))
     go_loopg [8, 9] k (fun kq v8 v9 w' => ∃ (x8_1 : Int) (x9_1 : Int), v8 = .int .i64 x8_1 ∧ v9 = .int .i64 x9_1 ∧ Aside0 (selfstabref27_reach.l0 kq a1 ((rd_T60 (rd_L2 l0_1 a1) a2).f0) x8_1 x9_1 l0_0 l0_1 = some r) ∧ Aside0 (kq ≤ k) ∧ Aside0 (w'.heap[gb866]? = some (.cells #[(.slice A0_0 l0_0.length c0_0), (.slice (some ad867) l0_1.length c0_1)] 27 (0, 0))) ∧ Aside0 (Below w.heap.size w w'))
     case atStart => exact ⟨(1), (0), (by first | rfl | (simp; done) | (simp [*]; done)), (by first | rfl | (simp; done) | (simp [*]; done)), H', ⟨Nat.le_refl _⟩, ⟨by (with_reducible repeat (first | refine blk_drewN ?_ _ | refine blk_drew ?_ | refine blk_alloc ?_ _)); exact BK866.out⟩, ⟨by repeat (first | (with_reducible first | exact HB.out | apply below_alloc | apply pw_below_drewN | apply below_drew1 | refine below_set ?_ GE866.out) | exact HB.out)⟩⟩
     case round =>
      clear H'
      try clear c1
      try clear p2
      try clear c4
      try clear c4b0
      try clear c5
      try clear c5b0
      try clear c6
      try clear c6b0
      try clear c7
      try clear c7b0
      try clear c8
      try clear p8
      try clear q8
      try clear hx8
      try clear hcz9_0
      try clear hcz9_1
      try clear hfz9_0
      try clear hfz9_1
      try clear hx867_0
      try clear hx868_0
      try clear hx868_1
      try clear p867
      try clear p868
      try clear q867
      try clear q868
      obtain ⟨x8_1, x9_1, rfl, rfl, HA, HK1, BK866, HB⟩ := hrel
      cases gk with
      | zero => exact absurd HA.out (by simp [selfstabref27_reach.l0])
      | succ k1 =>
       have H := HA.out
       clear HA
       simp only [selfstabref27_reach.l0] at H
       by_cases c10 : 0 ≤ ((rd_T60 (rd_L2 l0_1 a1) a2).f0)
       ·
        rw [if_pos c10] at H
        have c10b0 : decide (0 ≤ ((rd_T60 (rd_L2 l0_1 a1) a2).f0)) = true := decide_eq_true c10
        clear c10
        by_cases c11 : ((rd_T60 (rd_L2 l0_1 a1) a2).f0) < (l0_1.length : Int)
        ·
         rw [if_pos c11] at H
         have c11b0 : decide (((rd_T60 (rd_L2 l0_1 a1) a2).f0) < (l0_1.length : Int)) = true := decide_eq_true c11
         clear c11
         by_cases c12 : x9_1 < ((rd_L2 l0_1 ((rd_T60 (rd_L2 l0_1 a1) a2).f0)).length : Int)
         ·
          rw [if_pos c12] at H
          have c12b0 : decide (x9_1 < ((rd_L2 l0_1 ((rd_T60 (rd_L2 l0_1 a1) a2).f0)).length : Int)) = true := decide_eq_true c12
          clear c12
          by_cases c13 : 0 ≤ x9_1
          ·
           rw [if_pos c13] at H
           have c13b0 : decide (0 ≤ x9_1) = true := decide_eq_true c13
           clear c13
           by_cases c14 : ((rd_T60 (rd_L2 l0_1 ((rd_T60 (rd_L2 l0_1 a1) a2).f0)) x9_1).f0) = a1
           ·
            rw [if_pos c14] at H
            have c14b0 : (((rd_T60 (rd_L2 l0_1 ((rd_T60 (rd_L2 l0_1 a1) a2).f0)) x9_1).f0) == a1) = true := beq_iff_eq.mpr c14
            have c14b1 : (((rd_T60 (rd_L2 l0_1 ((rd_T60 (rd_L2 l0_1 a1) a2).f0)) x9_1).f0) != a1) = false := bne_eq_false_iff_eq.mpr c14
            clear c14
            have H' := Aside0.mk H
            clear H
            have hcz15_0 : wr.cell? ⟨gb866, 0, none⟩ = some (.slice A0_0 l0_0.length c0_0) := (blk_cell BK866.out 0).trans rfl
            have hcz15_1 : wr.cell? ⟨gb866, 1, none⟩ = some (.slice (some ad867) l0_1.length c0_1) := (blk_cell BK866.out 1).trans rfl
            have hfz15_0 := blk_frozen BK866.out 0
            have hfz15_1 := blk_frozen BK866.out 1
            have p869 : 0 ≤ (((rd_T60 (rd_L2 l0_1 a1) a2).f0) : Int) := of_decide_eq_true (by first | (with_reducible assumption) | assumption)
            have q869 : ((rd_T60 (rd_L2 l0_1 a1) a2).f0) < (l0_1.length : Int) := of_decide_eq_true (by first | (with_reducible assumption) | assumption)
            obtain ⟨ad869, A869_0, c869_0, e869, hx869_0, hl869_0, hi869_0⟩ := at_L2 HR0_1.out ((rd_T60 (rd_L2 l0_1 a1) a2).f0) p869 q869
            obtain rfl : ad867 = ad869 := (by injection e869)
            replace hx869_0 := (HB.out.cell (World.block_lt_of_cell? w _ hx869_0)).trans hx869_0
            have HR869_0 := Aside0.mk hi869_0
            have HC869_0 := Aside0.mk hl869_0
            clear hi869_0 hl869_0
            replace p869 := eq_true p869
            replace q869 := eq_true q869
            have p870 : 0 ≤ (((rd_T60 (rd_L2 l0_1 a1) a2).f0) : Int) := of_decide_eq_true (by first | (with_reducible assumption) | assumption)
            have q870 : ((rd_T60 (rd_L2 l0_1 a1) a2).f0) < (l0_1.length : Int) := of_decide_eq_true (by first | (with_reducible assumption) | assumption)
            obtain ⟨ad870, A870_0, c870_0, e870, hx870_0, hl870_0, hi870_0⟩ := at_L2 HR0_1.out ((rd_T60 (rd_L2 l0_1 a1) a2).f0) p870 q870
            obtain rfl : ad867 = ad870 := (by injection e870)
            replace hx870_0 := (HB.out.cell (World.block_lt_of_cell? w _ hx870_0)).trans hx870_0
            have HR870_0 := Aside0.mk hi870_0
            have HC870_0 := Aside0.mk hl870_0
            clear hi870_0 hl870_0
            replace p870 := eq_true p870
            replace q870 := eq_true q870
            have ea_ := Option.some.inj (hx869_0.symm.trans hx870_0)
            injection ea_ with ea_ en_ ec_
            subst ea_
            subst ec_
            clear en_
            have p871 : 0 ≤ (x9_1 : Int) := of_decide_eq_true (by first | (with_reducible assumption) | assumption)
            have q871 : x9_1 < ((rd_L2 l0_1 ((rd_T60 (rd_L2 l0_1 a1) a2).f0)).length : Int) := of_decide_eq_true (by first | (with_reducible assumption) | assumption)
            obtain ⟨ad871, e871, hx871_0, hx871_1⟩ := at_T60 HR870_0.out x9_1 p871 q871
            cases e871
            replace hx871_0 := (HB.out.cell (World.block_lt_of_cell? w _ hx871_0)).trans hx871_0
            replace hx871_1 := (HB.out.cell (World.block_lt_of_cell? w _ hx871_1)).trans hx871_1
            replace p871 := eq_true p871
            replace q871 := eq_true q871
            go_wp2
            go_roundg k1
            case measure => have := HK1.out; omega
            case rel => exact ⟨(x8_1), (wrap64 (x9_1 + 1)), (by first | rfl | (simp; done) | (simp [*]; done)), (by first | rfl | (simp; done) | (simp [*]; done)), H', ⟨by have := HK1.out; omega⟩, ⟨by (with_reducible repeat (first | refine blk_drewN ?_ _ | refine blk_drew ?_ | refine blk_alloc ?_ _)); exact BK866.out⟩, ⟨by repeat (first | (with_reducible first | exact HB.out | apply below_alloc | apply pw_below_drewN | apply below_drew1 | refine below_set ?_ GE866.out) | exact HB.out)⟩⟩
           ·
            rw [if_neg c14] at H
            have c14b0 : (((rd_T60 (rd_L2 l0_1 ((rd_T60 (rd_L2 l0_1 a1) a2).f0)) x9_1).f0) == a1) = false := beq_eq_false_iff_ne.mpr c14
            have c14b1 : (((rd_T60 (rd_L2 l0_1 ((rd_T60 (rd_L2 l0_1 a1) a2).f0)) x9_1).f0) != a1) = true := bne_iff_ne.mpr c14
            replace H := Option.bind_eq_some_iff.mp H
            obtain ⟨t872, A160, H⟩ := H
            replace H : (selfstabref27_reach.l0 k1 a1 ((rd_T60 (rd_L2 l0_1 a1) a2).f0) (mx x8_1 (wrap64 (1 + t872))) (wrap64 (x9_1 + 1)) l0_0 l0_1) = some r := H
            have A16 := Aside0.mk A160
            clear A160
            obtain ⟨ji17, hji17⟩ : ∃ j_ : Int, (mx x8_1 (wrap64 (1 + t872))) = j_ := ⟨_, rfl⟩
            replace H : (selfstabref27_reach.l0 k1 a1 ((rd_T60 (rd_L2 l0_1 a1) a2).f0) ji17 (wrap64 (x9_1 + 1)) l0_0 l0_1) = some r := by first | (rw [hji17] at H; exact H) | (simp only [hji17] at H ⊢; exact H)
            (try rw [hji17] at A16)
            have hji17_ : (if x8_1 < (wrap64 (1 + t872)) then (wrap64 (1 + t872)) else x8_1) = ji17 := hji17
            have H' := Aside0.mk H
            clear H
            have hcz18_0 : wr.cell? ⟨gb866, 0, none⟩ = some (.slice A0_0 l0_0.length c0_0) := (blk_cell BK866.out 0).trans rfl
            have hcz18_1 : wr.cell? ⟨gb866, 1, none⟩ = some (.slice (some ad867) l0_1.length c0_1) := (blk_cell BK866.out 1).trans rfl
            have hfz18_0 := blk_frozen BK866.out 0
            have hfz18_1 := blk_frozen BK866.out 1
            have p869 : 0 ≤ (((rd_T60 (rd_L2 l0_1 a1) a2).f0) : Int) := of_decide_eq_true (by first | (with_reducible assumption) | assumption)
            have q869 : ((rd_T60 (rd_L2 l0_1 a1) a2).f0) < (l0_1.length : Int) := of_decide_eq_true (by first | (with_reducible assumption) | assumption)
            obtain ⟨ad869, A869_0, c869_0, e869, hx869_0, hl869_0, hi869_0⟩ := at_L2 HR0_1.out ((rd_T60 (rd_L2 l0_1 a1) a2).f0) p869 q869
            obtain rfl : ad867 = ad869 := (by injection e869)
            replace hx869_0 := (HB.out.cell (World.block_lt_of_cell? w _ hx869_0)).trans hx869_0
            have HR869_0 := Aside0.mk hi869_0
            have HC869_0 := Aside0.mk hl869_0
            clear hi869_0 hl869_0
            replace p869 := eq_true p869
            replace q869 := eq_true q869
            have p870 : 0 ≤ (((rd_T60 (rd_L2 l0_1 a1) a2).f0) : Int) := of_decide_eq_true (by first | (with_reducible assumption) | assumption)
            have q870 : ((rd_T60 (rd_L2 l0_1 a1) a2).f0) < (l0_1.length : Int) := of_decide_eq_true (by first | (with_reducible assumption) | assumption)
            obtain ⟨ad870, A870_0, c870_0, e870, hx870_0, hl870_0, hi870_0⟩ := at_L2 HR0_1.out ((rd_T60 (rd_L2 l0_1 a1) a2).f0) p870 q870
            obtain rfl : ad867 = ad870 := (by injection e870)
            replace hx870_0 := (HB.out.cell (World.block_lt_of_cell? w _ hx870_0)).trans hx870_0
            have HR870_0 := Aside0.mk hi870_0
            have HC870_0 := Aside0.mk hl870_0
            clear hi870_0 hl870_0
            replace p870 := eq_true p870
            replace q870 := eq_true q870
            have ea_ := Option.some.inj (hx869_0.symm.trans hx870_0)
            injection ea_ with ea_ en_ ec_
            subst ea_
            subst ec_
            clear en_
            have p871 : 0 ≤ (x9_1 : Int) := of_decide_eq_true (by first | (with_reducible assumption) | assumption)
            have q871 : x9_1 < ((rd_L2 l0_1 ((rd_T60 (rd_L2 l0_1 a1) a2).f0)).length : Int) := of_decide_eq_true (by first | (with_reducible assumption) | assumption)
            obtain ⟨ad871, e871, hx871_0, hx871_1⟩ := at_T60 HR870_0.out x9_1 p871 q871
            cases e871
            replace hx871_0 := (HB.out.cell (World.block_lt_of_cell? w _ hx871_0)).trans hx871_0
            replace hx871_1 := (HB.out.cell (World.block_lt_of_cell? w _ hx871_1)).trans hx871_1
            replace p871 := eq_true p871
            replace q871 := eq_true q871
            go_wp2_with (first | ((with_reducible refine gate_callee (f := 133) rfl ?_); refine goesL_ (some 44) rfl rfl Try.func133 (by kernel_rfl) rfl #[.agg #[.slice A0_0 l0_0.length c0_0, .slice (some ad867) l0_1.length c0_1], .int .i64 ((rd_T60 (rd_L2 l0_1 a1) a2).f0), .int .i64 x9_1] rfl (by (try simp only [List.map_toArray, List.map_cons, List.map_nil]); first | done | rfl | (simp only [List.length_drop, List.length_take]; rfl)) ?_; (with_reducible refine (ih k1 (by have := HK1.out; omega) _ _ l0_0 _ _ l0_1 ((rd_T60 (rd_L2 l0_1 a1) a2).f0) x9_1 t872 _ ?side1 ?side2 ?side3 ?side4 A16.out).mono ?_); (case side1 => repeat (first | exact (Kd.C_below HR0_0.out HB.out) | (with_reducible refine Kd.C_alloc ?_ _) | (with_reducible refine Kd.C_drewN ?_ _) | (with_reducible refine Kd.C_drew ?_))); (case side2 => exact HC0_0.out); (case side3 => repeat (first | exact (Kd.C_below HR0_1.out HB.out) | (with_reducible refine Kd.C_alloc ?_ _) | (with_reducible refine Kd.C_drewN ?_ _) | (with_reducible refine Kd.C_drew ?_))); (case side4 => exact HC0_1.out); rintro e w19 ⟨rfl, hb⟩; refine ⟨_, rfl, ?_⟩; have n0_ := Aside0.mk (blk_below (g := gb866) (o := .cells #[.slice A0_0 l0_0.length c0_0, .slice (some ad867) l0_1.length c0_1] 27 (0, 0)) (by (with_reducible repeat (first | refine blk_drewN ?_ _ | refine blk_drew ?_ | refine blk_alloc ?_ _)); exact BK866.out) hb); have n1_ := Aside0.mk (below_step (by repeat (first | (with_reducible first | exact HB.out | apply below_alloc | apply pw_below_drewN | apply below_drew1 | refine below_set ?_ GE866.out) | exact HB.out)) hb); clear BK866; clear HB; have BK866 := n0_; have HB := n1_; clear n0_ n1_; (try clear hb); (try clear hb2); (try clear hk); (try clear hi)))
            go_roundg k1
            case measure => have := HK1.out; omega
            case rel => exact ⟨(ji17), (wrap64 (x9_1 + 1)), (by first | rfl | (simp; done) | (simp only [← hji17] <;> (first | rfl | simp)) | (simp [*]; done)), (by first | rfl | (simp; done) | (simp [*]; done)), H', ⟨by have := HK1.out; omega⟩, ⟨by (with_reducible repeat (first | refine blk_drewN ?_ _ | refine blk_drew ?_ | refine blk_alloc ?_ _)); exact BK866.out⟩, ⟨by repeat (first | (with_reducible first | exact HB.out | apply below_alloc | apply pw_below_drewN | apply below_drew1 | refine below_set ?_ GE866.out) | exact HB.out)⟩⟩
          ·
           rw [if_neg c13] at H
           exact absurd H (by simp)
         ·
          rw [if_neg c12] at H
          have c12b0 : decide (x9_1 < ((rd_L2 l0_1 ((rd_T60 (rd_L2 l0_1 a1) a2).f0)).length : Int)) = false := decide_eq_false c12
          clear c12
          obtain rfl := Option.some.inj H
          have hcz20_0 : wr.cell? ⟨gb866, 0, none⟩ = some (.slice A0_0 l0_0.length c0_0) := (blk_cell BK866.out 0).trans rfl
          have hcz20_1 : wr.cell? ⟨gb866, 1, none⟩ = some (.slice (some ad867) l0_1.length c0_1) := (blk_cell BK866.out 1).trans rfl
          have hfz20_0 := blk_frozen BK866.out 0
          have hfz20_1 := blk_frozen BK866.out 1
          have p869 : 0 ≤ (((rd_T60 (rd_L2 l0_1 a1) a2).f0) : Int) := of_decide_eq_true (by first | (with_reducible assumption) | assumption)
          have q869 : ((rd_T60 (rd_L2 l0_1 a1) a2).f0) < (l0_1.length : Int) := of_decide_eq_true (by first | (with_reducible assumption) | assumption)
          obtain ⟨ad869, A869_0, c869_0, e869, hx869_0, hl869_0, hi869_0⟩ := at_L2 HR0_1.out ((rd_T60 (rd_L2 l0_1 a1) a2).f0) p869 q869
          obtain rfl : ad867 = ad869 := (by injection e869)
          replace hx869_0 := (HB.out.cell (World.block_lt_of_cell? w _ hx869_0)).trans hx869_0
          have HR869_0 := Aside0.mk hi869_0
          have HC869_0 := Aside0.mk hl869_0
          clear hi869_0 hl869_0
          replace p869 := eq_true p869
          replace q869 := eq_true q869
          go_wp2
          go_ret
          exact ⟨by first | rfl | (simp [errW_none, errW_some] <;> rfl) | (simp [*, errW_none, errW_some] <;> rfl), by repeat (first | (with_reducible first | exact HB.out | apply below_alloc | apply pw_below_drewN | apply below_drew1 | refine below_set ?_ GE866.out) | exact HB.out)⟩
        ·
         rw [if_neg c11] at H
         exact absurd H (by simp)
       ·
        rw [if_neg c10] at H
        exact absurd H (by simp)
    ·
     rw [if_neg c7] at H
     exact absurd H (by simp)
   ·
    rw [if_neg c6] at H
    exact absurd H (by simp)
  ·
   rw [if_neg c5] at H
   exact absurd H (by simp)
 ·
  rw [if_neg c4] at H
  exact absurd H (by simp)
end Go.Proofs.YthapikakneikbaaG
namespace Go.Proofs.YthapikakneikbaaG
open Go.RowKit Go.Proofs.YthapikakneikbaaW.PrintWords Go.Proofs.YthapikakneikbaaW.PrintLast Go.Proofs.YthapikakneikbaaW.PrintMore
attribute [local go_sem] max2_int min2_int max_two min_two max_three min_three max_four min_four   -- for this text's walks alone
set_option linter.unusedVariables false
set_option linter.unusedSimpArgs false
def selfstabref27_Height.l0 : Nat → Int → Int → Int → Int → List Int → List (List (S60)) → Option (Int)
 | 0, _, _, _, _, _, _ => none
 | k + 1, x1, x5, x6, x7, x874000, x874001 => if 0 ≤ x1 then (if x1 < (x874001.length : Int) then (if x7 < ((rd_L2 x874001 x1).length : Int) then ((selfstabref27_reach.f k x874000 x874001 x1 x7).bind fun t875 => (if t875 > x5 then (selfstabref27_Height.l0 k x1 t875 x5 (wrap64 (x7 + 1)) x874000 x874001) else (selfstabref27_Height.l0 k x1 x5 (mx x6 t875) (wrap64 (x7 + 1)) x874000 x874001))) else (some x6)) else (none)) else (none)
def selfstabref27_Height.f (k : Nat) (l0_0 : List Int) (l0_1 : List (List (S60))) (a1 : Int) : Option (Int) := selfstabref27_Height.l0 k a1 0 0 0 l0_0 l0_1
theorem selfstabref27_Height.mono_l : ∀ k, (∀ y0 y1 y2 y3 y4 y5, LeO (selfstabref27_Height.l0 k y0 y1 y2 y3 y4 y5) (selfstabref27_Height.l0 (k + 1) y0 y1 y2 y3 y4 y5))
 | 0 => fun _ _ _ _ _ _ r h => by simp [selfstabref27_Height.l0] at h
 | k + 1 => by
  have ih0 := selfstabref27_Height.mono_l k
  ·
   intro y0 y1 y2 y3 y4 y5
   unfold selfstabref27_Height.l0
   repeat' first
   | (with_reducible exact ih0 _ _ _ _ _ _)
   | (with_reducible exact selfstabref27_reach.mono _ _ _ _ _)
   | (with_reducible exact LeO.refl _)
   | (with_reducible exact LeO.none _)
   | (with_reducible refine LeO.ite ?_ ?_)
   | (with_reducible refine LeO.bind ?_ (fun _ => ?_))
   | exact ih0 _ _ _ _ _ _
   | exact selfstabref27_reach.mono _ _ _ _ _
   | exact LeO.none _
   | refine LeO.ite ?_ ?_
   | refine LeO.bind ?_ (fun _ => ?_)
theorem selfstabref27_Height.mono : ∀ a0 a1 a2 k, LeO (selfstabref27_Height.f k a0 a1 a2) (selfstabref27_Height.f (k + 1) a0 a1 a2) := by
 intro a0 a1 a2 k
 have ih0 := selfstabref27_Height.mono_l k
 unfold selfstabref27_Height.f
 repeat' first
   | (with_reducible exact ih0 _ _ _ _ _ _)
   | (with_reducible exact selfstabref27_reach.mono _ _ _ _ _)
   | (with_reducible exact LeO.refl _)
   | (with_reducible exact LeO.none _)
   | (with_reducible refine LeO.ite ?_ ?_)
   | (with_reducible refine LeO.bind ?_ (fun _ => ?_))
   | exact ih0 _ _ _ _ _ _
   | exact selfstabref27_reach.mono _ _ _ _ _
   | exact LeO.none _
   | refine LeO.ite ?_ ?_
   | refine LeO.bind ?_ (fun _ => ?_)
set_option maxHeartbeats 8000000 in
set_option maxRecDepth 100000 in
theorem selfstabref27_Height.calls (k : Nat) (A0_0 : Option Addr) (c0_0 : Nat) (l0_0 : List Int) (A0_1 : Option Addr) (c0_1 : Nat) (l0_1 : List (List (S60))) (a1 : Int) (r : Int) (w : World) (hr0_0 : Kd.C (Kd.int .i64) w A0_0 l0_0.length l0_0) (hc0_0 : l0_0.length ≤ c0_0) (hr0_1 : Kd.C (Kd.slice 60 k60) w A0_1 l0_1.length l0_1) (hc0_1 : l0_1.length ≤ c0_1) (h : selfstabref27_Height.f k l0_0 l0_1 a1 = some r) :
  Calls Try.prog 131 #[.agg #[.slice A0_0 l0_0.length c0_0, .slice A0_1 l0_1.length c0_1], .int .i64 a1] w fun e w' => e = .returned (.int .i64 r) ∧ Below w.heap.size w w' := by
 have hu27 := Try.underlying27
 have HR0_0 := Aside0.mk hr0_0
 have HC0_0 := Aside0.mk hc0_0
 clear hr0_0 hc0_0
 have HR0_1 := Aside0.mk hr0_1
 have HC0_1 := Aside0.mk hc0_1
 clear hr0_1 hc0_1
 have HB := Aside0.mk (Below.refl w.heap.size w)
 have H : (selfstabref27_Height.l0 k a1 0 0 0 l0_0 l0_1) = some r := h
 clear h
 have H' := Aside0.mk H
 clear H
 go_enter Try.func131, Try.ntmps131
 go_wp2_with (first | ((with_reducible refine gate_dst (N := 2) rfl ?_); refine box_event ?hg (N := 2) ?hd (cs := #[.slice A0_0 l0_0.length c0_0, .slice A0_1 l0_1.length c0_1]) (t := 27) ?hr ?_; (case hd => rfl); (case hg => rfl); (case hr => first | (go_simp; done) | (go_simp; rfl)); intro gb873 hg w3 hbox hb; have n0_ := Aside0.mk (below_step (by repeat (first | (with_reducible first | exact HB.out | apply below_alloc | apply pw_below_drewN | apply below_drew1) | exact HB.out)) hb); have n1_ := Aside0.mk (hbox); have n2_ := Aside0.mk ((by rw [hg]; exact (below_size (by repeat (first | (with_reducible first | exact HB.out | apply below_alloc | apply pw_below_drewN | apply below_drew1) | exact HB.out))) : w.heap.size ≤ gb873)); have n3_ := Aside0.mk ((by rw [hg]; exact (below_size (by repeat (first | (with_reducible first | exact HB.out | apply below_alloc | apply pw_below_drewN | apply below_drew1) | exact HB.out))) : w.heap.size ≤ gb873)); clear HB; have HB := n0_; have BK873 := n1_; have GW873 := n2_; have GE873 := n3_; clear n0_ n1_ n2_ n3_; clear hb hbox hg))
 go_loopg [5, 6, 7] k (fun kq v5 v6 v7 w' => ∃ (x5_1 : Int) (x6_1 : Int) (x7_1 : Int), v5 = .int .i64 x5_1 ∧ v6 = .int .i64 x6_1 ∧ v7 = .int .i64 x7_1 ∧ Aside0 (selfstabref27_Height.l0 kq a1 x5_1 x6_1 x7_1 l0_0 l0_1 = some r) ∧ Aside0 (kq ≤ k) ∧ Aside0 (w'.heap[gb873]? = some (.cells #[(.slice A0_0 l0_0.length c0_0), (.slice A0_1 l0_1.length c0_1)] 27 (0, 0))) ∧ Aside0 (Below w.heap.size w w'))
 case atStart => exact ⟨(0), (0), (0), (by first | rfl | (simp; done) | (simp [*]; done)), (by first | rfl | (simp; done) | (simp [*]; done)), (by first | rfl | (simp; done) | (simp [*]; done)), H', ⟨Nat.le_refl _⟩, ⟨by (with_reducible repeat (first | refine blk_drewN ?_ _ | refine blk_drew ?_ | refine blk_alloc ?_ _)); exact BK873.out⟩, ⟨by repeat (first | (with_reducible first | exact HB.out | apply below_alloc | apply pw_below_drewN | apply below_drew1 | refine below_set ?_ GE873.out) | exact HB.out)⟩⟩
 case round =>
  clear H'
  try clear c1
  try clear p2
  obtain ⟨x5_1, x6_1, x7_1, rfl, rfl, rfl, HA, HK1, BK873, HB⟩ := hrel
  cases gk with
  | zero => exact absurd HA.out (by simp [selfstabref27_Height.l0])
  | succ k1 =>
   have H := HA.out
   clear HA
   simp only [selfstabref27_Height.l0] at H
   by_cases c4 : 0 ≤ a1
   ·
    rw [if_pos c4] at H
    have c4b0 : decide (0 ≤ a1) = true := decide_eq_true c4
    clear c4
    by_cases c5 : a1 < (l0_1.length : Int)
    ·
     rw [if_pos c5] at H
     have c5b0 : decide (a1 < (l0_1.length : Int)) = true := decide_eq_true c5
     clear c5
     by_cases c6 : x7_1 < ((rd_L2 l0_1 a1).length : Int)
     ·
      rw [if_pos c6] at H
      have c6b0 : decide (x7_1 < ((rd_L2 l0_1 a1).length : Int)) = true := decide_eq_true c6
      clear c6
      replace H := Option.bind_eq_some_iff.mp H
      obtain ⟨t875, A70, H⟩ := H
      replace H : (if t875 > x5_1 then (selfstabref27_Height.l0 k1 a1 t875 x5_1 (wrap64 (x7_1 + 1)) l0_0 l0_1) else (selfstabref27_Height.l0 k1 a1 x5_1 (mx x6_1 t875) (wrap64 (x7_1 + 1)) l0_0 l0_1)) = some r := H
      have A7 := Aside0.mk A70
      clear A70
      by_cases c8 : t875 > x5_1
      ·
       rw [if_pos c8] at H
       have c8b0 : decide (x5_1 < t875) = true := decide_eq_true c8
       clear c8
       have H' := Aside0.mk H
       clear H
       have hcz9_0 : wr.cell? ⟨gb873, 0, none⟩ = some (.slice A0_0 l0_0.length c0_0) := (blk_cell BK873.out 0).trans rfl
       have hcz9_1 : wr.cell? ⟨gb873, 1, none⟩ = some (.slice A0_1 l0_1.length c0_1) := (blk_cell BK873.out 1).trans rfl
       have hfz9_0 := blk_frozen BK873.out 0
       have hfz9_1 := blk_frozen BK873.out 1
       have p874 : 0 ≤ (a1 : Int) := of_decide_eq_true (by first | (with_reducible assumption) | assumption)
       have q874 : a1 < (l0_1.length : Int) := of_decide_eq_true (by first | (with_reducible assumption) | assumption)
       obtain ⟨ad874, A874_0, c874_0, e874, hx874_0, hl874_0, hi874_0⟩ := at_L2 HR0_1.out a1 p874 q874
       cases e874
       replace hx874_0 := (HB.out.cell (World.block_lt_of_cell? w _ hx874_0)).trans hx874_0
       have HR874_0 := Aside0.mk hi874_0
       have HC874_0 := Aside0.mk hl874_0
       clear hi874_0 hl874_0
       replace p874 := eq_true p874
       replace q874 := eq_true q874
       go_wp2_with (first | ((with_reducible refine gate_callee (f := 133) rfl ?_); refine goesL_ (some 22) rfl rfl Try.func133 (by kernel_rfl) rfl #[.agg #[.slice A0_0 l0_0.length c0_0, .slice (some ad874) l0_1.length c0_1], .int .i64 a1, .int .i64 x7_1] rfl (by (try simp only [List.map_toArray, List.map_cons, List.map_nil]); first | done | rfl | (simp only [List.length_drop, List.length_take]; rfl)) ?_; (with_reducible refine (selfstabref27_reach.calls k1 _ _ l0_0 _ _ l0_1 a1 x7_1 t875 _ ?side1 ?side2 ?side3 ?side4 A7.out).mono ?_); (case side1 => repeat (first | exact (Kd.C_below HR0_0.out HB.out) | (with_reducible refine Kd.C_alloc ?_ _) | (with_reducible refine Kd.C_drewN ?_ _) | (with_reducible refine Kd.C_drew ?_))); (case side2 => exact HC0_0.out); (case side3 => repeat (first | exact (Kd.C_below HR0_1.out HB.out) | (with_reducible refine Kd.C_alloc ?_ _) | (with_reducible refine Kd.C_drewN ?_ _) | (with_reducible refine Kd.C_drew ?_))); (case side4 => exact HC0_1.out); rintro e w10 ⟨rfl, hb⟩; refine ⟨_, rfl, ?_⟩; have n0_ := Aside0.mk (blk_below (g := gb873) (o := .cells #[.slice A0_0 l0_0.length c0_0, .slice (some ad874) l0_1.length c0_1] 27 (0, 0)) (by (with_reducible repeat (first | refine blk_drewN ?_ _ | refine blk_drew ?_ | refine blk_alloc ?_ _)); exact BK873.out) hb); have n1_ := Aside0.mk (below_step (by repeat (first | (with_reducible first | exact HB.out | apply below_alloc | apply pw_below_drewN | apply below_drew1 | refine below_set ?_ GE873.out) | exact HB.out)) hb); clear BK873; clear HB; have BK873 := n0_; have HB := n1_; clear n0_ n1_; (try clear hb); (try clear hb2); (try clear hk); (try clear hi)))
       go_roundg k1
       case measure => have := HK1.out; omega
       case rel => exact ⟨(t875), (x5_1), (wrap64 (x7_1 + 1)), (by first | rfl | (simp; done) | (simp [*]; done)), (by first | rfl | (simp; done) | (simp [*]; done)), (by first | rfl | (simp; done) | (simp [*]; done)), H', ⟨by have := HK1.out; omega⟩, ⟨by (with_reducible repeat (first | refine blk_drewN ?_ _ | refine blk_drew ?_ | refine blk_alloc ?_ _)); exact BK873.out⟩, ⟨by repeat (first | (with_reducible first | exact HB.out | apply below_alloc | apply pw_below_drewN | apply below_drew1 | refine below_set ?_ GE873.out) | exact HB.out)⟩⟩
      ·
       rw [if_neg c8] at H
       have c8b0 : decide (x5_1 < t875) = false := decide_eq_false c8
       clear c8
       obtain ⟨ji11, hji11⟩ : ∃ j_ : Int, (mx x6_1 t875) = j_ := ⟨_, rfl⟩
       replace H : (selfstabref27_Height.l0 k1 a1 x5_1 ji11 (wrap64 (x7_1 + 1)) l0_0 l0_1) = some r := by first | (rw [hji11] at H; exact H) | (simp only [hji11] at H ⊢; exact H)
       (try rw [hji11] at A7)
       have hji11_ : (if x6_1 < t875 then t875 else x6_1) = ji11 := hji11
       have H' := Aside0.mk H
       clear H
       have hcz12_0 : wr.cell? ⟨gb873, 0, none⟩ = some (.slice A0_0 l0_0.length c0_0) := (blk_cell BK873.out 0).trans rfl
       have hcz12_1 : wr.cell? ⟨gb873, 1, none⟩ = some (.slice A0_1 l0_1.length c0_1) := (blk_cell BK873.out 1).trans rfl
       have hfz12_0 := blk_frozen BK873.out 0
       have hfz12_1 := blk_frozen BK873.out 1
       have p874 : 0 ≤ (a1 : Int) := of_decide_eq_true (by first | (with_reducible assumption) | assumption)
       have q874 : a1 < (l0_1.length : Int) := of_decide_eq_true (by first | (with_reducible assumption) | assumption)
       obtain ⟨ad874, A874_0, c874_0, e874, hx874_0, hl874_0, hi874_0⟩ := at_L2 HR0_1.out a1 p874 q874
       cases e874
       replace hx874_0 := (HB.out.cell (World.block_lt_of_cell? w _ hx874_0)).trans hx874_0
       have HR874_0 := Aside0.mk hi874_0
       have HC874_0 := Aside0.mk hl874_0
       clear hi874_0 hl874_0
       replace p874 := eq_true p874
       replace q874 := eq_true q874
       go_wp2_with (first | ((with_reducible refine gate_callee (f := 133) rfl ?_); refine goesL_ (some 22) rfl rfl Try.func133 (by kernel_rfl) rfl #[.agg #[.slice A0_0 l0_0.length c0_0, .slice (some ad874) l0_1.length c0_1], .int .i64 a1, .int .i64 x7_1] rfl (by (try simp only [List.map_toArray, List.map_cons, List.map_nil]); first | done | rfl | (simp only [List.length_drop, List.length_take]; rfl)) ?_; (with_reducible refine (selfstabref27_reach.calls k1 _ _ l0_0 _ _ l0_1 a1 x7_1 t875 _ ?side1 ?side2 ?side3 ?side4 A7.out).mono ?_); (case side1 => repeat (first | exact (Kd.C_below HR0_0.out HB.out) | (with_reducible refine Kd.C_alloc ?_ _) | (with_reducible refine Kd.C_drewN ?_ _) | (with_reducible refine Kd.C_drew ?_))); (case side2 => exact HC0_0.out); (case side3 => repeat (first | exact (Kd.C_below HR0_1.out HB.out) | (with_reducible refine Kd.C_alloc ?_ _) | (with_reducible refine Kd.C_drewN ?_ _) | (with_reducible refine Kd.C_drew ?_))); (case side4 => exact HC0_1.out); rintro e w13 ⟨rfl, hb⟩; refine ⟨_, rfl, ?_⟩; have n0_ := Aside0.mk (blk_below (g := gb873) (o := .cells #[.slice A0_0 l0_0.length c0_0, .slice (some ad874) l0_1.length c0_1] 27 (0, 0)) (by (with_reducible repeat (first | refine blk_drewN ?_ _ | refine blk_drew ?_ | refine blk_alloc ?_ _)); exact BK873.out) hb); have n1_ := Aside0.mk (below_step (by repeat (first | (with_reducible first | exact HB.out | apply below_alloc | apply pw_below_drewN | apply below_drew1 | refine below_set ?_ GE873.out) | exact HB.out)) hb); clear BK873; clear HB; have BK873 := n0_; have HB := n1_; clear n0_ n1_; (try clear hb); (try clear hb2); (try clear hk); (try clear hi)))
       go_roundg k1
       case measure => have := HK1.out; omega
       case rel => exact ⟨(x5_1), (ji11), (wrap64 (x7_1 + 1)), (by first | rfl | (simp; done) | (simp [*]; done)), (by first | rfl | (simp; done) | (simp only [← hji11] <;> (first | rfl | simp)) | (simp [*]; done)), (by first | rfl | (simp; done) | (simp [*]; done)), H', ⟨by have := HK1.out; omega⟩, ⟨by (with_reducible repeat (first | refine blk_drewN ?_ _ | refine blk_drew ?_ | refine blk_alloc ?_ _)); exact BK873.out⟩, ⟨by repeat (first | (with_reducible first | exact HB.out | apply below_alloc | apply pw_below_drewN | apply below_drew1 | refine below_set ?_ GE873.out) | exact HB.out)⟩⟩
     ·
      rw [if_neg c6] at H
      have c6b0 : decide (x7_1 < ((rd_L2 l0_1 a1).length : Int)) = false := decide_eq_false c6
      clear c6
      obtain rfl := Option.some.inj H
      have hcz14_0 : wr.cell? ⟨gb873, 0, none⟩ = some (.slice A0_0 l0_0.length c0_0) := (blk_cell BK873.out 0).trans rfl
      have hcz14_1 : wr.cell? ⟨gb873, 1, none⟩ = some (.slice A0_1 l0_1.length c0_1) := (blk_cell BK873.out 1).trans rfl
      have hfz14_0 := blk_frozen BK873.out 0
      have hfz14_1 := blk_frozen BK873.out 1
      have p874 : 0 ≤ (a1 : Int) := of_decide_eq_true (by first | (with_reducible assumption) | assumption)
      have q874 : a1 < (l0_1.length : Int) := of_decide_eq_true (by first | (with_reducible assumption) | assumption)
      obtain ⟨ad874, A874_0, c874_0, e874, hx874_0, hl874_0, hi874_0⟩ := at_L2 HR0_1.out a1 p874 q874
      cases e874
      replace hx874_0 := (HB.out.cell (World.block_lt_of_cell? w _ hx874_0)).trans hx874_0
      have HR874_0 := Aside0.mk hi874_0
      have HC874_0 := Aside0.mk hl874_0
      clear hi874_0 hl874_0
      replace p874 := eq_true p874
      replace q874 := eq_true q874
      go_wp2
      go_ret
      exact ⟨by first | rfl | (simp [errW_none, errW_some] <;> rfl) | (simp [*, errW_none, errW_some] <;> rfl), by repeat (first | (with_reducible first | exact HB.out | apply below_alloc | apply pw_below_drewN | apply below_drew1 | refine below_set ?_ GE873.out) | exact HB.out)⟩
    ·
     rw [if_neg c5] at H
     exact absurd H (by simp)
   ·
    rw [if_neg c4] at H
    exact absurd H (by simp)
end Go.Proofs.YthapikakneikbaaG
/-
  Plain laws: reaches and heights in a tree, of the service and of its reference.
-/
namespace Go.Proofs.YthapikakneikbaaG
open Go.RowKit Go.Proofs.YthapikakneikbaaW.PrintWords Go.Proofs.YthapikakneikbaaW.PrintMore
/-- The reach from v by its neighbour u, as far as m links are looked at. -/
def R (p : List (List S60)) : Nat → Nat → Nat → Int
  | 0, _, _ => 0
  | m + 1, v, u => (p.getD u []).foldl (fun (a : Int) (l : S60) => if l.f0 = (v : Int) then a else mx a (R p m u l.f0.toNat)) 0 + 1
/-- The greatest reach over the first i ports of u but for the one to v. -/
def RF (p : List (List S60)) (m v u i : Nat) : Int := ((p.getD u []).take i).foldl (fun (a : Int) (l : S60) => if l.f0 = (v : Int) then a else mx a (R p m u l.f0.toNat)) 0
theorem RF_succ {p : List (List S60)} {m v u i : Nat} (h : i < (p.getD u []).length) : RF p m v u (i + 1) = if ((p.getD u [])[i]).f0 = (v : Int) then RF p m v u i else mx (RF p m v u i) (R p m u ((p.getD u [])[i]).f0.toNat) := by
  unfold RF
  rw [List.take_succ_eq_append_getElem h, List.foldl_append]
  rfl
theorem RF_end {p : List (List S60)} {m v u : Nat} : R p (m + 1) v u = RF p m v u (p.getD u []).length + 1 := by
  unfold RF
  rw [List.take_length, R]
theorem mx_cases (a b : Int) : (mx a b = a ∧ b ≤ a) ∨ (mx a b = b ∧ a < b) := by
  unfold mx
  split
  · exact .inr ⟨rfl, by assumption⟩
  · exact .inl ⟨rfl, by omega⟩
theorem RF_small {p : List (List S60)} {m v u : Nat} (hR : ∀ v u, 0 ≤ R p m v u ∧ R p m v u ≤ m) : ∀ i, i ≤ (p.getD u []).length → 0 ≤ RF p m v u i ∧ RF p m v u i ≤ m := by
  intro i
  induction i with
  | zero => intro _; unfold RF; simp
  | succ i ih =>
    intro hi
    have h := ih (by omega)
    rw [RF_succ (by omega)]
    split
    · exact h
    · have h1 := hR u ((p.getD u [])[i]).f0.toNat
      rcases mx_cases (RF p m v u i) (R p m u ((p.getD u [])[i]).f0.toNat) with ⟨e, _⟩ | ⟨e, _⟩ <;> rw [e] <;> assumption
theorem R_small (p : List (List S60)) : ∀ m v u, 0 ≤ R p m v u ∧ R p m v u ≤ m := by
  intro m
  induction m with
  | zero => intro v u; unfold R; simp
  | succ m ih =>
    intro v u
    have h := RF_small ih (v := v) (u := u) (p.getD u []).length (Nat.le_refl _)
    rw [RF_end]
    omega
/-- Where a port leads. -/
theorem link_at {ids : List Int} {p : List (List S60)} (hV : (toG ids p).valid = true) {v i : Nat} (hv : v < p.length) (hi : i < (p.getD v []).length) : ∃ u : Nat, ((p.getD v [])[i]).f0 = (u : Int) ∧ u < p.length ∧ adjP p v u = true := by
  have hm : (p.getD v [])[i] ∈ p.getD v [] := List.getElem_mem hi
  have e : p.getD v [] = p[v] := by rw [List.getD_eq_getElem?_getD, List.getElem?_eq_getElem hv, Option.getD_some]
  have hm2 : (p.getD v [])[i] ∈ p[v] := (congrArg (fun r => (p.getD v [])[i] ∈ r) e).mp hm
  obtain ⟨g1, g2, _⟩ := valid_to hV hv hm2
  obtain ⟨u, hu⟩ := Int.eq_ofNat_of_zero_le g1
  refine ⟨u, hu, by omega, ?_⟩
  unfold adjP
  rw [List.any_eq_true]
  exact ⟨_, hm, decide_eq_true hu⟩
/-- The link from x to y, with at most m links to go. -/
def Ok (p : List (List S60)) (par : Nat → Nat) (m x y : Nat) : Prop :=
  (x = par y ∧ distTo p 0 p.length y = distTo p 0 p.length x + 1 ∧ (p.length : Int) - distTo p 0 p.length y ≤ m) ∨
  (y = par x ∧ distTo p 0 p.length x = distTo p 0 p.length y + 1 ∧ (p.length : Int) + distTo p 0 p.length y ≤ m)
def Links (p : List (List S60)) (par : Nat → Nat) : Prop := ∀ x y, x < p.length → y < p.length → adjP p x y = true →
    (x = par y ∧ distTo p 0 p.length y = distTo p 0 p.length x + 1) ∨ (y = par x ∧ distTo p 0 p.length x = distTo p 0 p.length y + 1)
section
variable {ids : List Int} {p : List (List S60)} {par : Nat → Nat}
theorem dist_lt (hc : connG ids p = true) {v : Nat} (hv : v < p.length) : 0 ≤ distTo p 0 p.length v ∧ distTo p 0 p.length v < p.length := by
  have := conn_all hc hv
  rcases distTo_cases (p := p) (a := 0) p.length v with ⟨h1, _⟩ | ⟨e, he, h1, h2⟩ <;> omega
theorem Ok_zero (hc : connG ids p = true) {x y : Nat} (hx : x < p.length) (hy : y < p.length) : ¬ Ok p par 0 x y := by
  have h1 := dist_lt hc hx
  have h2 := dist_lt hc hy
  rintro (⟨_, _, h⟩ | ⟨_, _, h⟩) <;> omega
theorem Ok_next (hc : connG ids p = true) (hl : Links p par) {m x y w : Nat} (hx : x < p.length) (hy : y < p.length) (hw : w < p.length) (h : Ok p par (m + 1) x y) (ha : adjP p y w = true) (hn : w ≠ x) : Ok p par m y w := by
  have h1 := dist_lt hc hx
  have h2 := dist_lt hc hy
  have h3 := dist_lt hc hw
  rcases h with ⟨a1, a2, a3⟩ | ⟨a1, a2, a3⟩
  · rcases hl y w hy hw ha with ⟨b1, b2⟩ | ⟨b1, b2⟩
    · exact .inl ⟨b1, b2, by omega⟩
    · exact absurd (b1.trans a1.symm) hn
  · rcases hl y w hy hw ha with ⟨b1, b2⟩ | ⟨b1, b2⟩
    · exact .inl ⟨b1, b2, by omega⟩
    · exact .inr ⟨b1, b2, by omega⟩
theorem Ok_all (hc : connG ids p = true) (hl : Links p par) {x y : Nat} (hx : x < p.length) (hy : y < p.length) (ha : adjP p x y = true) : Ok p par (2 * p.length) x y := by
  have h1 := dist_lt hc hx
  have h2 := dist_lt hc hy
  rcases hl x y hx hy ha with ⟨b1, b2⟩ | ⟨b1, b2⟩
  · exact .inl ⟨b1, b2, by omega⟩
  · exact .inr ⟨b1, b2, by omega⟩
theorem one_mx (a b : Int) : mx (a + 1) (b + 1) = mx a b + 1 := by
  unfold mx
  by_cases h : a < b
  · rw [if_pos h, if_pos (by omega)]
  · rw [if_neg h, if_neg (by omega)]
set_option maxHeartbeats 4000000 in
/-- shape.reach. -/
theorem reach_ev (hc : connG ids p = true) (hl : Links p par) : ∀ m, m ≤ 1000 → ∀ x y, x < p.length → y < p.length → Ok p par m x y → Ev (fun k => shape_reach.f k ids p (x : Int) (y : Int)) (R p m x y) := by
  have hV := conn_valid hc
  obtain ⟨s1, s2, _⟩ := valid_size hV
  intro m
  induction m with
  | zero => exact fun _ x y hx hy h => absurd h (Ok_zero hc hx hy)
  | succ m ih =>
    intro hm1 x y hx hy h
    have hrl : (p.getD y []).length ≤ 576 := by
      have := row_small hV hy
      rwa [List.getD_eq_getElem?_getD, List.getElem?_eq_getElem hy, Option.getD_some]
    have loop : ∀ mm i, mm + i = (p.getD y []).length → Ev (fun k => shape_reach.l0 k (x : Int) (y : Int) (RF p m x y i) (p.getD y []) ((p.getD y []).length : Int) (i : Int) ids p) (R p (m + 1) x y) := by
      intro mm
      induction mm with
      | zero =>
        intro i hi
        obtain rfl : i = (p.getD y []).length := by omega
        have hb := RF_small (R_small p m) (v := x) (u := y) (p.getD y []).length (Nat.le_refl _)
        refine Ev.step (f := fun _ => some (R p (m + 1) x y)) (fun k => ?_) Ev.some
        rw [shape_reach.l0, if_neg (by omega), wrap_id (by omega) (by omega), RF_end]
      | succ mm ih2 =>
        intro i hi
        have hil : i < (p.getD y []).length := by omega
        have hlk : rd_T60 (p.getD y []) (i : Int) = (p.getD y [])[i] := rdLink_nat hil
        have hnext := ih2 (i + 1) (by omega)
        have hRF := RF_succ (p := p) (m := m) (v := x) (u := y) hil
        have e2 : wrap64 ((i : Int) + 1) = ((i + 1 : Nat) : Int) := by rw [wrap_id (by omega) (by omega)]; rfl
        obtain ⟨w, hw, hwl, hwa⟩ := link_at hV hy hil
        rw [hw] at hRF
        by_cases hwx : w = x
        · rw [if_pos (by omega)] at hRF
          rw [hRF] at hnext
          refine Ev.step (fun k => ?_) hnext
          rw [shape_reach.l0, if_pos (by omega), if_pos (by omega), if_pos (by omega), hlk, hw, if_pos (by omega), e2]
        · rw [if_neg (by omega), Int.toNat_natCast] at hRF
          rw [hRF] at hnext
          have hre := ih (by omega) y w hy hwl (Ok_next hc hl hx hy hwl h hwa hwx)
          refine Ev.step (fun k => ?_) (Ev.bind (f := fun n t => shape_reach.l0 n (x : Int) (y : Int) (mx (RF p m x y i) t) (p.getD y []) ((p.getD y []).length : Int) ((i + 1 : Nat) : Int) ids p) hre hnext)
          rw [shape_reach.l0, if_pos (by omega), if_pos (by omega), if_pos (by omega), hlk, hw, if_neg (by omega), e2]
    refine Ev.step (fun k => ?_) (loop (p.getD y []).length 0 (by omega))
    rw [shape_reach.f, if_pos (by omega), if_pos (by omega), rdPorts_nat]
    rfl
set_option maxHeartbeats 4000000 in
/-- selfstabref27.reach. -/
theorem rreach_ev (hc : connG ids p = true) (hl : Links p par) : ∀ m, m ≤ 1000 → ∀ x y (q : Nat) (hq : q < (p.getD x []).length), x < p.length → y < p.length → ((p.getD x [])[q]).f0 = (y : Int) → Ok p par m x y → Ev (fun k => selfstabref27_reach.f k ids p (x : Int) (q : Int)) (R p m x y) := by
  have hV := conn_valid hc
  obtain ⟨s1, s2, _⟩ := valid_size hV
  intro m
  induction m with
  | zero => exact fun _ x y _ _ hx hy _ h => absurd h (Ok_zero hc hx hy)
  | succ m ih =>
    intro hm1 x y q hq hx hy hxy h
    have hrl : (p.getD y []).length ≤ 576 := by
      have := row_small hV hy
      rwa [List.getD_eq_getElem?_getD, List.getElem?_eq_getElem hy, Option.getD_some]
    have hrl2 : (p.getD x []).length ≤ 576 := by
      have := row_small hV hx
      rwa [List.getD_eq_getElem?_getD, List.getElem?_eq_getElem hx, Option.getD_some]
    have loop : ∀ mm i, mm + i = (p.getD y []).length → Ev (fun k => selfstabref27_reach.l0 k (x : Int) (y : Int) (RF p m x y i + 1) (i : Int) ids p) (R p (m + 1) x y) := by
      intro mm
      induction mm with
      | zero =>
        intro i hi
        obtain rfl : i = (p.getD y []).length := by omega
        refine Ev.step (f := fun _ => some (R p (m + 1) x y)) (fun k => ?_) Ev.some
        rw [selfstabref27_reach.l0, if_pos (by omega), if_pos (by omega), rdPorts_nat, if_neg (by omega), RF_end]
      | succ mm ih2 =>
        intro i hi
        have hil : i < (p.getD y []).length := by omega
        have c0 : (0 : Int) ≤ (y : Int) := by omega
        have c1 : (y : Int) < (p.length : Int) := by omega
        have c2 : (i : Int) < ((p.getD y []).length : Int) := Int.ofNat_lt.2 hil
        have c3 : (0 : Int) ≤ (i : Int) := by omega
        have hlk : rd_T60 (p.getD y []) (i : Int) = (p.getD y [])[i] := rdLink_nat hil
        have hnext := ih2 (i + 1) (by omega)
        have hRF := RF_succ (p := p) (m := m) (v := x) (u := y) hil
        have e2 : wrap64 ((i : Int) + 1) = ((i + 1 : Nat) : Int) := by rw [wrap_id (by omega) (by omega)]; rfl
        obtain ⟨w, hw, hwl, hwa⟩ := link_at hV hy hil
        rw [hw] at hRF
        by_cases hwx : w = x
        · rw [if_pos (by omega)] at hRF
          rw [hRF] at hnext
          refine Ev.step (fun k => ?_) hnext
          have c4 : (w : Int) = (x : Int) := by omega
          rw [selfstabref27_reach.l0, if_pos c0, if_pos c1, rdPorts_nat, if_pos c2, if_pos c3, hlk, hw, if_pos c4, e2]
        · rw [if_neg (by omega), Int.toNat_natCast] at hRF
          rw [hRF, ← one_mx] at hnext
          have hre := ih (by omega) y w i hil hy hwl hw (Ok_next hc hl hx hy hwl h hwa hwx)
          have hb := R_small p m y w
          have e3 : wrap64 (1 + R p m y w) = R p m y w + 1 := by rw [wrap_id (by omega) (by omega)]; omega
          rw [← e3] at hnext
          refine Ev.step (fun k => ?_) (Ev.bind (f := fun n t => selfstabref27_reach.l0 n (x : Int) (y : Int) (mx (RF p m x y i + 1) (wrap64 (1 + t))) ((i + 1 : Nat) : Int) ids p) hre hnext)
          have c4 : ¬ (w : Int) = (x : Int) := by omega
          rw [selfstabref27_reach.l0, if_pos c0, if_pos c1, rdPorts_nat, if_pos c2, if_pos c3, hlk, hw, if_neg c4, e2]
    refine Ev.step (fun k => ?_) (loop (p.getD y []).length 0 (by omega))
    have hlk : rd_T60 (p.getD x []) (q : Int) = (p.getD x [])[q] := rdLink_nat hq
    rw [selfstabref27_reach.f, if_pos (by omega), if_pos (by omega), rdPorts_nat, if_pos (by omega), if_pos (by omega), hlk, hxy]
    rfl
end
/-! ### heights -/
def hstep (p : List (List S60)) (v : Nat) (s : Int × Int) (l : S60) : Int × Int := if R p (2 * p.length) v l.f0.toNat > s.1 then (R p (2 * p.length) v l.f0.toNat, s.1) else (s.1, mx s.2 (R p (2 * p.length) v l.f0.toNat))
/-- The greatest and the second greatest reach over the first i ports of v. -/
def HT (p : List (List S60)) (v i : Nat) : Int × Int := ((p.getD v []).take i).foldl (hstep p v) (0, 0)
def htF (p : List (List S60)) (v : Nat) : Int := (HT p v (p.getD v []).length).2
theorem HT_succ {p : List (List S60)} {v i : Nat} (h : i < (p.getD v []).length) : HT p v (i + 1) = hstep p v (HT p v i) (p.getD v [])[i] := by
  unfold HT
  rw [List.take_succ_eq_append_getElem h, List.foldl_append]
  rfl
section
variable {ids : List Int} {p : List (List S60)} {par : Nat → Nat}
set_option maxHeartbeats 4000000 in
/-- selfstabref27.Height. -/
theorem rheight_ev (hc : connG ids p = true) (hl : Links p par) {v : Nat} (hv : v < p.length) : Ev (fun k => selfstabref27_Height.f k ids p (v : Int)) (htF p v) := by
  have hV := conn_valid hc
  obtain ⟨s1, s2, _⟩ := valid_size hV
  have hrl : (p.getD v []).length ≤ 576 := by
    have := row_small hV hv
    rwa [List.getD_eq_getElem?_getD, List.getElem?_eq_getElem hv, Option.getD_some]
  have loop : ∀ mm i, mm + i = (p.getD v []).length → Ev (fun k => selfstabref27_Height.l0 k (v : Int) (HT p v i).1 (HT p v i).2 (i : Int) ids p) (htF p v) := by
    intro mm
    induction mm with
    | zero =>
      intro i hi
      obtain rfl : i = (p.getD v []).length := by omega
      refine Ev.step (f := fun _ => some (htF p v)) (fun k => ?_) Ev.some
      rw [selfstabref27_Height.l0, if_pos (by omega), if_pos (by omega), rdPorts_nat, if_neg (by omega)]
      rfl
    | succ mm ih =>
      intro i hi
      have hil : i < (p.getD v []).length := by omega
      have hnext := ih (i + 1) (by omega)
      have e2 : wrap64 ((i : Int) + 1) = ((i + 1 : Nat) : Int) := by rw [wrap_id (by omega) (by omega)]; rfl
      obtain ⟨w, hw, hwl, hwa⟩ := link_at hV hv hil
      have hre := rreach_ev hc hl (2 * p.length) (by omega) v w i hil hv hwl hw (Ok_all hc hl hv hwl hwa)
      rw [HT_succ hil] at hnext
      unfold hstep at hnext
      rw [hw, Int.toNat_natCast] at hnext
      refine Ev.step (g := fun k => selfstabref27_Height.l0 k (v : Int) (HT p v i).1 (HT p v i).2 (i : Int) ids p) (f := fun k => (selfstabref27_reach.f k ids p (v : Int) (i : Int)).bind fun t => if t > (HT p v i).1 then selfstabref27_Height.l0 k (v : Int) t (HT p v i).1 ((i + 1 : Nat) : Int) ids p else selfstabref27_Height.l0 k (v : Int) (HT p v i).1 (mx (HT p v i).2 t) ((i + 1 : Nat) : Int) ids p) (fun k => ?_) (Ev.bind hre ?_)
      · rw [selfstabref27_Height.l0, if_pos (by omega), if_pos (by omega), rdPorts_nat, if_pos (by omega), e2]
      · by_cases hgt : R p (2 * p.length) v w > (HT p v i).1
        · rw [if_pos hgt] at hnext
          exact Ev.congr (fun k => if_pos hgt) hnext
        · rw [if_neg hgt] at hnext
          exact Ev.congr (fun k => if_neg hgt) hnext
  exact loop (p.getD v []).length 0 (by omega)
/-- The heights of the first v nodes, and 0. -/
def midH (p : List (List S60)) (v : Nat) : List Int := outL p.length fun u => if u < v then htF p u else 0
theorem midH_set {v : Nat} : (midH p v).set v (htF p v) = midH p (v + 1) := by
  unfold midH
  rw [outL_set]
  refine outL_ext fun u _ => ?_
  by_cases e : u = v
  · subst e; rw [if_pos rfl, if_pos (by omega)]
  · rw [if_neg e]
    by_cases hl : u < v
    · rw [if_pos hl, if_pos (by omega)]
    · rw [if_neg hl, if_neg (by omega)]
set_option maxHeartbeats 4000000 in
/-- shape.Heights. -/
theorem heights_ev (hc : connG ids p = true) (hl : Links p par) : Ev (fun k => shape_Heights.f k ids p) (outL p.length (htF p)) := by
  have hV := conn_valid hc
  obtain ⟨s1, s2, _⟩ := valid_size hV
  have inner : ∀ v, v < p.length → Ev (fun k => shape_Heights.l0 k (midH p (v + 1)) (p.length : Int) ((v + 1 : Nat) : Int) ids p) (outL p.length (htF p)) →
      ∀ mm i, mm + i = (p.getD v []).length → Ev (fun k => shape_Heights.l1 k (midH p v) (v : Int) (HT p v i).1 (HT p v i).2 (p.length : Int) (v : Int) (p.getD v []) ((p.getD v []).length : Int) (i : Int) ids p) (outL p.length (htF p)) := by
    intro v hv hnx mm
    have hrl : (p.getD v []).length ≤ 576 := by
      have := row_small hV hv
      rwa [List.getD_eq_getElem?_getD, List.getElem?_eq_getElem hv, Option.getD_some]
    have hml : (midH p v).length = p.length := outL_len _ _
    induction mm with
    | zero =>
      intro i hi
      obtain rfl : i = (p.getD v []).length := by omega
      have e2 : wrap64 ((v : Int) + 1) = ((v + 1 : Nat) : Int) := by rw [wrap_id (by omega) (by omega)]; rfl
      refine Ev.step (fun k => ?_) hnx
      rw [shape_Heights.l1, if_neg (by omega), if_pos (by omega), if_pos (by omega), Int.toNat_natCast, e2]
      show shape_Heights.l0 k ((midH p v).set v (htF p v)) _ _ _ _ = _
      rw [midH_set]
    | succ mm ih =>
      intro i hi
      have hil : i < (p.getD v []).length := by omega
      have hlk : rd_T60 (p.getD v []) (i : Int) = (p.getD v [])[i] := rdLink_nat hil
      have hnext := ih (i + 1) (by omega)
      have e2 : wrap64 ((i : Int) + 1) = ((i + 1 : Nat) : Int) := by rw [wrap_id (by omega) (by omega)]; rfl
      obtain ⟨w, hw, hwl, hwa⟩ := link_at hV hv hil
      have hre := reach_ev hc hl (2 * p.length) (by omega) v w hv hwl (Ok_all hc hl hv hwl hwa)
      rw [HT_succ hil] at hnext
      unfold hstep at hnext
      rw [hw, Int.toNat_natCast] at hnext
      refine Ev.step (g := fun k => shape_Heights.l1 k (midH p v) (v : Int) (HT p v i).1 (HT p v i).2 (p.length : Int) (v : Int) (p.getD v []) ((p.getD v []).length : Int) (i : Int) ids p) (f := fun k => (shape_reach.f k ids p (v : Int) (w : Int)).bind fun t => if t > (HT p v i).1 then shape_Heights.l1 k (midH p v) (v : Int) t (HT p v i).1 (p.length : Int) (v : Int) (p.getD v []) ((p.getD v []).length : Int) ((i + 1 : Nat) : Int) ids p else shape_Heights.l1 k (midH p v) (v : Int) (HT p v i).1 (mx (HT p v i).2 t) (p.length : Int) (v : Int) (p.getD v []) ((p.getD v []).length : Int) ((i + 1 : Nat) : Int) ids p) (fun k => ?_) (Ev.bind hre ?_)
      · rw [shape_Heights.l1, if_pos (by omega), if_pos (by omega), if_pos (by omega), hlk, hw, e2]
      · by_cases hgt : R p (2 * p.length) v w > (HT p v i).1
        · rw [if_pos hgt] at hnext
          exact Ev.congr (fun k => if_pos hgt) hnext
        · rw [if_neg hgt] at hnext
          exact Ev.congr (fun k => if_neg hgt) hnext
  have outer : ∀ mm v, mm + v = p.length → Ev (fun k => shape_Heights.l0 k (midH p v) (p.length : Int) (v : Int) ids p) (outL p.length (htF p)) := by
    intro mm
    induction mm with
    | zero =>
      intro v hm
      obtain rfl : v = p.length := by omega
      refine Ev.step (f := fun _ => some (outL p.length (htF p))) (fun k => ?_) Ev.some
      rw [shape_Heights.l0, if_neg (by omega)]
      exact congrArg some (outL_ext fun u hu => by rw [if_pos hu])
    | succ mm ih =>
      intro v hm
      refine Ev.step (fun k => ?_) (inner v (by omega) (ih (v + 1) (by omega)) (p.getD v []).length 0 (by omega))
      rw [shape_Heights.l0, if_pos (by omega), if_pos (by omega), if_pos (by omega), rdPorts_nat]
      rfl
  unfold shape_Heights.f
  refine Ev.congr (fun k => ?_) (outer p.length 0 (by omega))
  rw [if_pos (by omega), if_pos (by omega), Int.toNat_natCast, outL_const]
  rfl
end
end Go.Proofs.YthapikakneikbaaG
/-
  As Bridge, for configurations; beside the contracts of shape.Where and shape.Holds.
-/
namespace Go.Proofs.YthapikakneikbaaG
open Go.RowKit
theorem C_conf {w : World} {A : Option Addr} {n : Nat} {c : List (List Int)} (h : Go.Proofs.YthapikakneikbaaW.PrintWords.Kd.C (Go.Proofs.YthapikakneikbaaW.PrintWords.Kd.slice 3 (Go.Proofs.YthapikakneikbaaW.PrintWords.Kd.int .i64)) w A n c) : Go.Proofs.Ythapikakneikbaa.kConf.C w A c := by
  have := ((Br.int .i64).slice 3).C h
  simpa using this
end Go.Proofs.YthapikakneikbaaG
