/-
  Lemmas and walks for this claim, part 4: PDist, GgraphConnected, GgraphEccentricity, Gselfstabref01greatest, Gselfstabref01Connected, Gselfstabref01Eccentricity, PConn, ShapeBridge, Tree, More, Any, Config, RefConf, ConfBridge, PConf, Gselfstabref23Tree, PPtr, GEq1, Gselfstablaw26large, GleaderFit, First, MadeBridge, Open, Back, GslicesIndexintint, Min, MinBridge, GslicesMinintint, Gleaderleast, GshapeGreatest, GshapeHolds.
-/
import Derived.Deep.RegionHeld3
import Derived.IntWalk
import Derived.ProofKit
import Derived.OpenShut
import Derived.ChangeOld
import Derived.Below
import Derived.Deep.Slices
import Derived.WalkLawsBesides
import Derived.Test.YthapikakneikbaaLJ3
/-
  Plain laws on distances: sets of nodes that are reached link by link, and what the printed functions compute of them.
-/
namespace Go.Proofs.YthapikakneikbaaG
open Go.RowKit Go.Proofs.YthapikakneikbaaW.PrintWords
open Go.Proofs.Ythapikakneikbaa (bitsOf bitsOf_lt bitsOf_small testBit_bitsOf bitsOf_congr bitsOf_zero aroundB)
/-! ### lists by their places -/
def outL {α : Type} (n : Nat) (f : Nat → α) : List α := (List.range n).map f
theorem outL_len {α : Type} (n : Nat) (f : Nat → α) : (outL n f).length = n := by simp [outL]
theorem outL_get {α : Type} {n : Nat} {f : Nat → α} {v : Nat} (h : v < n) : (outL n f)[v]? = some (f v) := by simp [outL, h]
theorem outL_ext {α : Type} {n : Nat} {f g : Nat → α} (h : ∀ v, v < n → f v = g v) : outL n f = outL n g := List.map_congr_left fun v hv => h v (List.mem_range.1 hv)
theorem outL_rd {n : Nat} {f : Nat → Int} {v : Nat} (h : v < n) : rd (outL n f) (v : Int) = f v := by
  rw [rd_getD, List.getD_eq_getElem?_getD, outL_get h]
  rfl
theorem outL_set {α : Type} {n : Nat} {f : Nat → α} {v : Nat} (x : α) : (outL n f).set v x = outL n (fun u => if u = v then x else f u) := by
  apply List.ext_getElem?
  intro i
  rw [List.getElem?_set]
  by_cases hi : i < n
  · rw [outL_get hi, outL_get hi]
    by_cases e : v = i
    · subst e
      simp [outL_len, hi]
    · have e' : i ≠ v := fun h => e h.symm
      simp [e, e']
  · have h1 : (outL n f)[i]? = none := by simp [outL]; omega
    have h2 : (outL n (fun u => if u = v then x else f u))[i]? = none := by simp [outL]; omega
    rw [h1, h2, outL_len]
    split <;> simp_all
theorem outL_succ {α : Type} (n : Nat) (f : Nat → α) : outL (n + 1) f = outL n f ++ [f n] := by simp [outL, List.range_succ]
theorem outL_const {α : Type} (n : Nat) (x : α) : List.replicate n x = outL n (fun _ => x) := by
  simp [outL]
  induction n with
  | zero => rfl
  | succ n ih => rw [List.replicate_succ', ih, List.range_succ, List.map_append]; rfl
/-! ### the sets -/
def adjP (p : List (List S60)) (v u : Nat) : Bool := (p.getD v []).any fun l => decide (l.f0 = (u : Int))
/-- At distance d (front), and below (reached). -/
def FR (p : List (List S60)) (a : Nat) : Nat → (Nat → Bool) × (Nat → Bool)
  | 0 => (fun v => decide (v = a), fun _ => false)
  | d + 1 => (fun v => ((List.range p.length).any fun u => (FR p a d).1 u && adjP p u v) && !((FR p a d).2 v || (FR p a d).1 v), fun v => (FR p a d).2 v || (FR p a d).1 v)
abbrev Fr (p : List (List S60)) (a d v : Nat) : Bool := (FR p a d).1 v
abbrev Rc (p : List (List S60)) (a d v : Nat) : Bool := (FR p a d).2 v
def nx (p : List (List S60)) (a d v w : Nat) : Bool := (List.range v).any fun u => Fr p a d u && adjP p u w
theorem Fr_succ (p : List (List S60)) (a d v : Nat) : Fr p a (d + 1) v = (nx p a d p.length v && !(Rc p a d v || Fr p a d v)) := rfl
theorem Rc_succ (p : List (List S60)) (a d v : Nat) : Rc p a (d + 1) v = (Rc p a d v || Fr p a d v) := rfl
theorem nx_succ (p : List (List S60)) (a d v w : Nat) : nx p a d (v + 1) w = (nx p a d v w || (Fr p a d v && adjP p v w)) := by
  unfold nx
  rw [List.range_succ, List.any_append]
  simp
/-- The distance, as far as it is below d. -/
def distTo (p : List (List S60)) (a : Nat) : Nat → Nat → Int
  | 0, _ => -1
  | d + 1, v => if Fr p a d v then (d : Int) else distTo p a d v
section
variable {p : List (List S60)} {a : Nat}
theorem Fr_not_Rc {d v : Nat} (h : Fr p a d v = true) : Rc p a d v = false := by
  cases d with
  | zero => rfl
  | succ d =>
    rw [Fr_succ, Bool.and_eq_true] at h
    rw [Rc_succ]
    simpa using h.2
theorem Rc_iff {d v : Nat} : Rc p a d v = true ↔ ∃ e, e < d ∧ Fr p a e v = true := by
  induction d with
  | zero => exact ⟨(fun h => by cases h), fun ⟨e, he, _⟩ => absurd he (Nat.not_lt_zero _)⟩
  | succ d ih =>
    rw [Rc_succ, Bool.or_eq_true, ih]
    constructor
    · rintro (⟨e, he, h⟩ | h)
      · exact ⟨e, by omega, h⟩
      · exact ⟨d, by omega, h⟩
    · rintro ⟨e, he, h⟩
      by_cases hd : e = d
      · exact .inr (hd ▸ h)
      · exact .inl ⟨e, by omega, h⟩
theorem Fr_one {d e v : Nat} (h : Fr p a d v = true) (k : Fr p a e v = true) : d = e := by
  rcases Nat.lt_trichotomy d e with hl | hl | hl
  · have := Fr_not_Rc k
    rw [Rc_iff.2 ⟨d, hl, h⟩] at this
    cases this
  · exact hl
  · have := Fr_not_Rc h
    rw [Rc_iff.2 ⟨e, hl, k⟩] at this
    cases this
theorem distTo_cases (d v : Nat) : (distTo p a d v = -1 ∧ Rc p a d v = false) ∨ ∃ e, e < d ∧ Fr p a e v = true ∧ distTo p a d v = (e : Int) := by
  induction d with
  | zero => exact .inl ⟨rfl, rfl⟩
  | succ d ih =>
    unfold distTo
    by_cases h : Fr p a d v = true
    · rw [if_pos h]; exact .inr ⟨d, by omega, h, rfl⟩
    · rw [if_neg h]
      rcases ih with ⟨h1, h2⟩ | ⟨e, he, h1, h2⟩
      · refine .inl ⟨h1, ?_⟩
        rw [Rc_succ, h2]
        simpa using h
      · exact .inr ⟨e, by omega, h1, h2⟩
theorem distTo_of {d e v : Nat} (he : e < d) (h : Fr p a e v = true) : distTo p a d v = (e : Int) := by
  rcases distTo_cases (p := p) (a := a) d v with ⟨_, h2⟩ | ⟨e', _, h1, h2⟩
  · rw [Rc_iff.2 ⟨e, he, h⟩] at h2; cases h2
  · rw [h2, Fr_one h h1]
theorem distTo_neg {d v : Nat} : distTo p a d v < 0 ↔ Rc p a d v = false := by
  rcases distTo_cases (p := p) (a := a) d v with ⟨h1, h2⟩ | ⟨e, he, h1, h2⟩
  · rw [h1, h2]; exact ⟨(fun _ => rfl), (fun _ => by decide)⟩
  · rw [h2, Rc_iff.2 ⟨e, he, h1⟩]
    exact ⟨(fun h => by omega), (fun h => by cases h)⟩
theorem distTo_eq {d e v : Nat} (he : e < d) : distTo p a d v = (e : Int) ↔ Fr p a e v = true := by
  constructor
  · intro h
    rcases distTo_cases (p := p) (a := a) d v with ⟨h1, h2⟩ | ⟨e', he', h1, h2⟩
    · omega
    · have : e' = e := by omega
      exact this ▸ h1
  · exact distTo_of he
/-- Where a front is empty, nothing follows. -/
theorem Fr_stop {d : Nat} (h : ∀ v, v < p.length → Fr p a d v = false) : ∀ e, d ≤ e → ∀ v, v < p.length → Fr p a e v = false := by
  intro e he
  induction e with
  | zero => obtain rfl : d = 0 := by omega
            exact h
  | succ e ih =>
    by_cases hd : d = e + 1
    · exact hd ▸ h
    · intro v hv
      rw [Fr_succ]
      have hn : nx p a e p.length v = false := by
        unfold nx
        rw [List.any_eq_false]
        intro u hu
        rw [ih (by omega) u (List.mem_range.1 hu)]
        simp
      rw [hn, Bool.false_and]
theorem countP_or {l : List Nat} {f g : Nat → Bool} (h : ∀ v, f v = true → g v = false) : l.countP (fun v => f v || g v) = l.countP f + l.countP g := by
  induction l with
  | nil => rfl
  | cons x r ih =>
    simp only [List.countP_cons, ih]
    cases hf : f x with
    | true => rw [h x hf]; simp; omega
    | false => cases g x <;> simp <;> omega
/-- From n on, the fronts are empty. -/
theorem Fr_end {v : Nat} (hv : v < p.length) : Fr p a p.length v = false := by
  by_cases hex : ∃ d, d < p.length ∧ ∀ v, v < p.length → Fr p a d v = false
  · obtain ⟨d, hd, h⟩ := hex
    exact Fr_stop h _ (by omega) v hv
  · have hne : ∀ d, d < p.length → ∃ v, v < p.length ∧ Fr p a d v = true := fun d hd => by
      rcases Classical.em (∃ v, v < p.length ∧ Fr p a d v = true) with h | h
      · exact h
      · exact absurd ⟨d, hd, fun v hv => by
          cases hf : Fr p a d v with
          | false => rfl
          | true => exact absurd ⟨v, hv, hf⟩ h⟩ hex
    have hc : ∀ d, d ≤ p.length → d ≤ (List.range p.length).countP (fun v => Rc p a d v) := fun d => by
      induction d with
      | zero => intro _; exact Nat.zero_le _
      | succ d ih =>
        intro hd
        have h1 := ih (by omega)
        obtain ⟨u, hu, hfu⟩ := hne d (by omega)
        have h2 : (List.range p.length).countP (fun v => Rc p a (d + 1) v) = (List.range p.length).countP (fun v => Rc p a d v) + (List.range p.length).countP (fun v => Fr p a d v) := by
          have : (fun v => Rc p a (d + 1) v) = fun v => Rc p a d v || Fr p a d v := funext fun v => Rc_succ p a d v
          rw [this]
          exact countP_or fun v hr => by
            cases hf : Fr p a d v with
            | false => rfl
            | true => rw [Fr_not_Rc hf] at hr; cases hr
        have h3 : 0 < (List.range p.length).countP (fun v => Fr p a d v) := List.countP_pos_iff.2 ⟨u, List.mem_range.2 hu, hfu⟩
        omega
    have h1 := hc p.length (Nat.le_refl _)
    have h2 : (List.range p.length).countP (fun v => Rc p a p.length v) = (List.range p.length).length := by
      have := List.countP_le_length (p := fun v => Rc p a p.length v) (l := List.range p.length)
      rw [List.length_range] at this ⊢
      omega
    rw [List.countP_eq_length] at h2
    have h3 := h2 v (List.mem_range.2 hv)
    cases hf : Fr p a p.length v with
    | false => rfl
    | true => rw [Fr_not_Rc hf] at h3; cases h3
theorem Fr_late {d v : Nat} (hd : p.length ≤ d) (hv : v < p.length) : Fr p a d v = false := Fr_stop (fun _ h => Fr_end h) d hd v hv
theorem distTo_stop {d e v : Nat} (hv : v < p.length) (h : ∀ u, u < p.length → Fr p a d u = false) (he : d ≤ e) : distTo p a e v = distTo p a d v := by
  induction e with
  | zero => obtain rfl : d = 0 := by omega
            rfl
  | succ e ih =>
    by_cases hd : d = e + 1
    · rw [hd]
    · rw [distTo, if_neg (by rw [Fr_stop h e (by omega) v hv]; simp), ih (by omega)]
end
/-- The distances from node a. -/
def distL (p : List (List S60)) (a : Nat) : List Int := outL p.length (distTo p a p.length)
theorem distL_len (p : List (List S60)) (a : Nat) : (distL p a).length = p.length := outL_len _ _
/-! ### the service's loops -/
theorem adj_toG (ids : List Int) (p : List (List S60)) (v u : Nat) : Go.Proofs.Ythapikakneikbaa.adj (toG ids p) v u = adjP p v u := by
  unfold Go.Proofs.Ythapikakneikbaa.adj adjP
  rw [toG_row, List.any_map]
  rfl
theorem around_f {ids : List Int} {p : List (List S60)} (hv : (toG ids p).valid = true) {v : Nat} (h : v < p.length) : graph_around.f ids p (v : Int) = some ((bitsOf (adjP p v) p.length : Nat) : Int) := by
  unfold graph_around.f
  rw [if_pos ⟨hv, by omega, by omega⟩, Int.toNat_natCast]
  unfold aroundB
  rw [toG_len, bitsOf_congr fun u _ => adj_toG ids p v u]
theorem or_bits {f g : Nat → Bool} {n : Nat} (h : n ≤ 32) : Go.bits .or .u32 ((bitsOf f n : Nat) : Int) ((bitsOf g n : Nat) : Int) = ((bitsOf (fun v => f v || g v) n : Nat) : Int) := by
  rw [u32_or_nat _ _ (bitsOf_small h) (bitsOf_small h), Go.Proofs.Ythapikakneikbaa.or_bitsOf]
theorem not_bit {m i : Nat} (hm : m < 4294967296) : (4294967295 - m).testBit i = (decide (i < 32) && !m.testBit i) := by
  have : 4294967295 - m = 2 ^ 32 - (m + 1) := by omega
  rw [this, Nat.testBit_two_pow_sub_succ hm]
theorem andNot_bits {f g : Nat → Bool} {n : Nat} (h : n ≤ 32) : Go.bits .andNot .u32 ((bitsOf f n : Nat) : Int) ((bitsOf g n : Nat) : Int) = ((bitsOf (fun v => f v && !g v) n : Nat) : Int) := by
  rw [u32_andNot_nat _ _ (bitsOf_small h) (bitsOf_small h)]
  congr 1
  refine Nat.eq_of_testBit_eq fun v => ?_
  rw [Nat.testBit_and, not_bit (bitsOf_small h), testBit_bitsOf, testBit_bitsOf, testBit_bitsOf]
  by_cases hv : v < n
  · have : v < 32 := by omega
    simp [hv, this]
  · simp [hv]
theorem bit_of {f : Nat → Bool} {n v : Nat} (h : n ≤ 32) (hv : v < n) : Go.bits .and .u32 (shr .u32 ((bitsOf f n : Nat) : Int) (v : Int)) 1 = if f v then 1 else 0 := by
  rw [get_bit (bitsOf_small h) (by omega), testBit_bitsOf]
  simp [hv]
section
variable {ids : List Int} {p : List (List S60)} {a : Nat}
/-- In the midst of a layer: the nodes below v have been looked at. -/
def midL (p : List (List S60)) (a d v : Nat) : List Int := outL p.length fun u => if u < v then distTo p a (d + 1) u else distTo p a d u
theorem midL_zero (p : List (List S60)) (a d : Nat) : midL p a d 0 = outL p.length (distTo p a d) := outL_ext fun u _ => by simp
theorem midL_end (p : List (List S60)) (a d : Nat) : midL p a d p.length = outL p.length (distTo p a (d + 1)) := outL_ext fun u hu => by rw [if_pos hu]
theorem midL_yes {d v : Nat} (h : Fr p a d v = true) : (midL p a d v).set v (d : Int) = midL p a d (v + 1) := by
  unfold midL
  rw [outL_set]
  refine outL_ext fun u _ => ?_
  by_cases e : u = v
  · subst e
    rw [if_pos rfl, if_pos (by omega), distTo, if_pos h]
  · rw [if_neg e]
    by_cases hl : u < v
    · rw [if_pos hl, if_pos (by omega)]
    · rw [if_neg hl, if_neg (by omega)]
theorem midL_no {d v : Nat} (h : Fr p a d v = false) : midL p a d v = midL p a d (v + 1) := by
  refine outL_ext fun u _ => ?_
  by_cases e : u = v
  · subst e
    rw [if_neg (by omega), if_pos (by omega), distTo, if_neg (by simp [h])]
  · by_cases hl : u < v
    · rw [if_pos hl, if_pos (by omega)]
    · rw [if_neg hl, if_neg (by omega)]
theorem dist_l2 (hv : (toG ids p).valid = true) (r : List Int) (d : Nat) (hd : d ≤ p.length)
    (hnext : Ev (fun k => graph_Distances.l1 k (outL p.length (distTo p a (d + 1))) ((bitsOf (Rc p a (d + 1)) p.length : Nat) : Int) ((d + 1 : Nat) : Int) ((bitsOf (Fr p a (d + 1)) p.length : Nat) : Int) ids p) r) :
    ∀ m v, m + v = p.length → Ev (fun k => graph_Distances.l2 k (midL p a d v) ((bitsOf (Rc p a (d + 1)) p.length : Nat) : Int) (d : Int) ((bitsOf (Fr p a d) p.length : Nat) : Int) ((bitsOf (nx p a d v) p.length : Nat) : Int) (p.length : Int) (v : Int) ids p) r := by
  obtain ⟨s1, s2, _⟩ := valid_size hv
  intro m
  induction m with
  | zero =>
    intro v hm
    obtain rfl : v = p.length := by omega
    refine Ev.step (fun k => ?_) hnext
    rw [graph_Distances.l2, if_neg (by omega), midL_end, andNot_bits (by omega), wrap_id (by omega) (by omega)]
    have e : bitsOf (fun v => nx p a d p.length v && !Rc p a (d + 1) v) p.length = bitsOf (Fr p a (d + 1)) p.length := bitsOf_congr fun v _ => by rw [Fr_succ, Rc_succ]
    rw [e]
    rfl
  | succ m ih =>
    intro v hm
    have h := ih (v + 1) (by omega)
    have hl : (midL p a d v).length = p.length := outL_len _ _
    refine Ev.step (fun k => ?_) h
    rw [graph_Distances.l2, if_pos (by omega), if_pos (by omega), bit_of (by omega) (by omega), wrap_id (by omega) (by omega)]
    cases hf : Fr p a d v with
    | true =>
      rw [if_pos (by simp), if_pos (by rw [hl]; omega), around_f hv (by omega), Option.bind_some, Int.toNat_natCast, midL_yes hf, or_bits (by omega)]
      have e : bitsOf (fun w => nx p a d v w || adjP p v w) p.length = bitsOf (nx p a d (v + 1)) p.length := bitsOf_congr fun w _ => by rw [nx_succ, hf, Bool.true_and]
      rw [e]
      rfl
    | false =>
      rw [if_neg (by simp), midL_no hf]
      have e : bitsOf (nx p a d v) p.length = bitsOf (nx p a d (v + 1)) p.length := bitsOf_congr fun w _ => by rw [nx_succ, hf, Bool.false_and, Bool.or_false]
      rw [e]
      rfl
theorem dist_l1 (hv : (toG ids p).valid = true) : ∀ m d, m + d = p.length →
    Ev (fun k => graph_Distances.l1 k (outL p.length (distTo p a d)) ((bitsOf (Rc p a d) p.length : Nat) : Int) (d : Int) ((bitsOf (Fr p a d) p.length : Nat) : Int) ids p) (distL p a) := by
  obtain ⟨s1, s2, _⟩ := valid_size hv
  have stop : ∀ d, d ≤ p.length → bitsOf (Fr p a d) p.length = 0 → Ev (fun k => graph_Distances.l1 k (outL p.length (distTo p a d)) ((bitsOf (Rc p a d) p.length : Nat) : Int) (d : Int) ((bitsOf (Fr p a d) p.length : Nat) : Int) ids p) (distL p a) := fun d hd h0 => by
    refine Ev.step (f := fun _ => some (distL p a)) (fun k => ?_) Ev.some
    rw [graph_Distances.l1, if_pos (by rw [h0]; rfl)]
    congr 1
    exact outL_ext fun v hv => (distTo_stop hv (bitsOf_zero.1 h0) hd).symm
  intro m
  induction m with
  | zero =>
    intro d hm
    exact stop d (by omega) (bitsOf_zero.2 fun v hv => Fr_late (by omega) hv)
  | succ m ih =>
    intro d hm
    by_cases h0 : bitsOf (Fr p a d) p.length = 0
    · exact stop d (by omega) h0
    · have h := dist_l2 (a := a) hv (distL p a) d (by omega) (ih (d + 1) (by omega)) p.length 0 (by omega)
      refine Ev.step (fun k => ?_) h
      rw [graph_Distances.l1, if_neg (by omega), or_bits (by omega), midL_zero, outL_len]
      have e : bitsOf (nx p a d 0) p.length = 0 := bitsOf_zero.2 fun w _ => rfl
      rw [e]
      rfl
theorem dist_l0 (hv : (toG ids p).valid = true) (ha : a < p.length) : ∀ m v, m + v = p.length →
    Ev (fun k => graph_Distances.l0 k (a : Int) (outL p.length fun u => if u < v then -1 else 0) (p.length : Int) (v : Int) ids p) (distL p a) := by
  obtain ⟨s1, s2, _⟩ := valid_size hv
  intro m
  induction m with
  | zero =>
    intro v hm
    obtain rfl : v = p.length := by omega
    refine Ev.step (fun k => ?_) (dist_l1 (a := a) hv p.length 0 (by omega))
    rw [graph_Distances.l0, if_neg (by omega), if_pos (by omega), shl_bit (by omega)]
    have e1 : (outL p.length fun u => if u < p.length then (-1 : Int) else 0) = outL p.length (distTo p a 0) := outL_ext fun u hu => by rw [if_pos hu]; rfl
    have e2 : bitsOf (Rc p a 0) p.length = 0 := bitsOf_zero.2 fun w _ => rfl
    have e3 : bitsOf (Fr p a 0) p.length = 2 ^ a := by
      refine Nat.eq_of_testBit_eq fun i => ?_
      rw [testBit_bitsOf, Nat.testBit_two_pow]
      show (decide (i < p.length) && decide (i = a)) = _
      by_cases e : i = a
      · subst e; simp [ha]
      · simp [e, Ne.symm e]
    rw [e1, e2, e3]
    rfl
  | succ m ih =>
    intro v hm
    refine Ev.step (fun k => ?_) (ih (v + 1) (by omega))
    rw [graph_Distances.l0, if_pos (by omega), if_pos (by omega), if_pos (by rw [outL_len]; omega), wrap_id (by omega) (by omega), Int.toNat_natCast, outL_set]
    have e : (outL p.length fun u => if u = v then (-1 : Int) else if u < v then -1 else 0) = outL p.length fun u => if u < v + 1 then (-1 : Int) else 0 := outL_ext fun u _ => by
      by_cases h1 : u = v
      · rw [if_pos h1, if_pos (by omega)]
      · rw [if_neg h1]
        by_cases h2 : u < v
        · rw [if_pos h2, if_pos (by omega)]
        · rw [if_neg h2, if_neg (by omega)]
    rw [e]
    rfl
/-- What Distances returns. -/
def distS (ids : List Int) (p : List (List S60)) (a : Int) : List Int := if (toG ids p).valid = true ∧ 0 ≤ a ∧ a < p.length then distL p a.toNat else []
theorem distS_yes (hv : (toG ids p).valid = true) (h : a < p.length) : distS ids p (a : Int) = distL p a := by
  unfold distS
  rw [if_pos ⟨hv, by omega, by omega⟩, Int.toNat_natCast]
theorem distS_no {a : Int} (h : ¬ ((toG ids p).valid = true ∧ 0 ≤ a ∧ a < p.length)) : distS ids p a = [] := if_neg h
/-- graph.Distances. -/
theorem dist_ev (ids : List Int) (p : List (List S60)) (a : Int) : Ev (fun k => graph_Distances.f k ids p a) (distS ids p a) := by
  unfold graph_Distances.f graph_node.f graph_Valid.f
  by_cases h0 : 0 ≤ a
  · by_cases h1 : a < (p.length : Int)
    · cases hv : (toG ids p).valid with
      | false =>
        rw [distS_no (by rw [hv]; simp)]
        refine Ev.congr (f := fun _ => some []) (fun k => ?_) Ev.some
        rw [if_pos h0, if_pos h1]
        rfl
      | true =>
        obtain ⟨a, rfl⟩ := Int.eq_ofNat_of_zero_le h0
        obtain ⟨s1, s2, _⟩ := valid_size hv
        rw [distS_yes hv (by omega)]
        refine Ev.congr (fun k => ?_) (dist_l0 (a := a) hv (by omega) p.length 0 (by omega))
        rw [if_pos h0, if_pos h1, Option.bind_some, Option.bind_some, if_pos rfl, if_pos (by omega), if_pos (by rw [Int.toNat_natCast]; omega), Option.bind_some, Int.toNat_natCast, outL_const, outL_len]
        have e : (outL p.length fun _ => (0 : Int)) = outL p.length fun u => if u < 0 then -1 else 0 := outL_ext fun u _ => by rw [if_neg (by omega)]
        rw [e]
        rfl
    · rw [distS_no (fun h => h1 h.2.2)]
      refine Ev.congr (f := fun _ => some []) (fun k => ?_) Ev.some
      rw [if_pos h0, if_neg h1]
      rfl
  · rw [distS_no (fun h => h0 h.2.1)]
    refine Ev.congr (f := fun _ => some []) (fun k => ?_) Ev.some
    rw [if_neg h0]
    rfl
/-! ### the reference's loops -/
theorem adj_sym (hv : (toG ids p).valid = true) {v u : Nat} (h1 : v < p.length) (h2 : u < p.length) (h : adjP p v u = true) : adjP p u v = true := by
  unfold adjP at h ⊢
  rw [List.getD_eq_getElem?_getD, List.getElem?_eq_getElem h1] at h
  rw [List.getD_eq_getElem?_getD, List.getElem?_eq_getElem h2]
  rw [List.any_eq_true] at h ⊢
  obtain ⟨l, hl, e⟩ := h
  obtain ⟨l', hl', e'⟩ := valid_back hv h1 h2 ⟨l, hl, of_decide_eq_true e⟩
  exact ⟨l', hl', decide_eq_true e'⟩
/-- A node is at distance d + 1, as it is seen from the node. -/
theorem Fr_back (hv : (toG ids p).valid = true) {d v : Nat} (h : v < p.length) : Fr p a (d + 1) v = (!Rc p a (d + 1) v && (p[v]).any fun l => Fr p a d l.f0.toNat) := by
  rw [Fr_succ, Rc_succ, Bool.and_comm]
  congr 1
  rw [Bool.eq_iff_iff]
  unfold nx
  rw [List.any_eq_true, List.any_eq_true]
  constructor
  · rintro ⟨u, hu, hx⟩
    rw [Bool.and_eq_true] at hx
    have := adj_sym hv (List.mem_range.1 hu) h hx.2
    unfold adjP at this
    rw [List.getD_eq_getElem?_getD, List.getElem?_eq_getElem h, List.any_eq_true] at this
    obtain ⟨l, hl, e⟩ := this
    have e := of_decide_eq_true e
    exact ⟨l, hl, by rw [e]; exact hx.1⟩
  · rintro ⟨l, hl, hx⟩
    obtain ⟨g1, g2, _⟩ := valid_to hv h hl
    refine ⟨l.f0.toNat, List.mem_range.2 (by omega), ?_⟩
    rw [Bool.and_eq_true]
    refine ⟨hx, adj_sym hv h (by omega) ?_⟩
    unfold adjP
    rw [List.getD_eq_getElem?_getD, List.getElem?_eq_getElem h, List.any_eq_true]
    exact ⟨l, hl, decide_eq_true (by omega)⟩
theorem midL_at {d v u : Nat} (hu : u < p.length) : rd (midL p a d v) (u : Int) = if u < v then distTo p a (d + 1) u else distTo p a d u := outL_rd hu
/-- The value d - 1 stands where the front d - 1 is, before and after. -/
theorem mid_old {d v u : Nat} (hu : u < p.length) : rd (midL p a (d + 1) v) (u : Int) = (d : Int) ↔ Fr p a d u = true := by
  rw [midL_at hu]
  split
  · exact distTo_eq (by omega)
  · exact distTo_eq (by omega)
theorem rdist_l3 (hv : (toG ids p).valid = true) (r : List Int) (d v : Nat) (hd : d < p.length) (hvl : v < p.length)
    (hnext : Ev (fun k => selfstabref01_Distances.l2 k (p.length : Int) (midL p a (d + 1) (v + 1)) ((d + 1 : Nat) : Int) ((v + 1 : Nat) : Int) ids p) r) :
    ∀ m i, m + i = p[v].length → Rc p a (d + 1) v = false → ((p[v].take i).any fun l => Fr p a d l.f0.toNat) = false →
      Ev (fun k => selfstabref01_Distances.l3 k (p.length : Int) (midL p a (d + 1) v) ((d + 1 : Nat) : Int) (v : Int) (i : Int) ids p) r := by
  obtain ⟨s1, s2, _⟩ := valid_size hv
  have hrow : rd_L2 p (v : Int) = p[v] := by rw [rdPorts_nat, List.getD_eq_getElem?_getD, List.getElem?_eq_getElem hvl]; rfl
  have hll : ∀ w, (midL p a (d + 1) w).length = p.length := fun w => outL_len _ _
  intro m
  induction m with
  | zero =>
    intro i hm hrc hno
    obtain rfl : i = p[v].length := by omega
    rw [List.take_length] at hno
    have hf : Fr p a (d + 1) v = false := by rw [Fr_back hv hvl, hno, Bool.and_false]
    rw [← midL_no hf] at hnext
    refine Ev.step (f := fun k => selfstabref01_Distances.j5 k (p.length : Int) (midL p a (d + 1) v) ((d + 1 : Nat) : Int) (v : Int) (p[v].length : Int) false ids p) (fun k => ?_) (Ev.step (fun k => ?_) hnext)
    · rw [selfstabref01_Distances.l3, if_pos (by omega), if_pos (by omega), hrow, if_neg (by omega)]
    · rw [selfstabref01_Distances.j5, if_neg (by simp), wrap_id (by omega) (by omega)]
      rfl
  | succ m ih =>
    intro i hm hrc hno
    have hil : i < p[v].length := by omega
    have hlink : rd_T60 p[v] (i : Int) = p[v][i] := rdLink_nat hil
    obtain ⟨g1, g2, _⟩ := valid_to hv hvl (List.getElem_mem hil)
    have hrd : rd (midL p a (d + 1) v) (v : Int) < 0 := by rw [midL_at hvl, if_neg (by omega)]; exact distTo_neg.2 hrc
    obtain ⟨t, ht⟩ := Int.eq_ofNat_of_zero_le g1
    have c0 : (0 : Int) ≤ (v : Int) := by omega
    have cv : (v : Int) < (p.length : Int) := by omega
    have ci : (i : Int) < (p[v].length : Int) := by omega
    have ci0 : (0 : Int) ≤ (i : Int) := by omega
    have cl : ∀ w, (v : Int) < ((midL p a (d + 1) w).length : Int) := fun w => by rw [hll]; omega
    have ct0 : (0 : Int) ≤ (t : Int) := by omega
    have ct : (t : Int) < ((midL p a (d + 1) v).length : Int) := by rw [hll]; omega
    have ctp : t < p.length := by omega
    have cw : wrap64 (((d + 1 : Nat) : Int) - 1) = (d : Int) := by rw [wrap_id (by omega) (by omega)]; omega
    have hwrap : wrap64 ((i : Int) + 1) = ((i + 1 : Nat) : Int) := by
      have := row_small hv hvl
      rw [wrap_id (by omega) (by omega)]
      rfl
    refine Ev.step (f := fun k => selfstabref01_Distances.j5 k (p.length : Int) (midL p a (d + 1) v) ((d + 1 : Nat) : Int) (v : Int) (i : Int) true ids p) (fun k => ?_) ?_
    · rw [selfstabref01_Distances.l3, if_pos c0, if_pos cv, hrow, if_pos ci, if_pos (cl v), decide_eq_true hrd]
    · cases hf : Fr p a d t with
      | true =>
        have hF : Fr p a (d + 1) v = true := by
          rw [Fr_back hv hvl, hrc, Bool.not_false, Bool.true_and, List.any_eq_true]
          exact ⟨p[v][i], List.getElem_mem hil, by rw [ht, Int.toNat_natCast]; exact hf⟩
        refine Ev.step (f := fun k => selfstabref01_Distances.l3 k (p.length : Int) (midL p a (d + 1) (v + 1)) ((d + 1 : Nat) : Int) (v : Int) ((i + 1 : Nat) : Int) ids p) (fun k => ?_) ?_
        · rw [selfstabref01_Distances.j5, if_pos rfl, if_pos c0, if_pos cv, if_pos ci0, hrow, if_pos ci, hlink, ht, if_pos ct0, if_pos ct, cw, if_pos ((mid_old ctp).2 hf), if_pos (cl v), Int.toNat_natCast, midL_yes hF, hwrap]
        · have hn2 : ¬ rd (midL p a (d + 1) (v + 1)) (v : Int) < 0 := by rw [midL_at hvl, if_pos (by omega), distTo, if_pos hF]; omega
          refine Ev.step (f := fun k => selfstabref01_Distances.j5 k (p.length : Int) (midL p a (d + 1) (v + 1)) ((d + 1 : Nat) : Int) (v : Int) ((i + 1 : Nat) : Int) false ids p) (fun k => ?_) (Ev.step (fun k => ?_) hnext)
          · rw [selfstabref01_Distances.l3, if_pos c0, if_pos cv, hrow]
            by_cases hlast : ((i + 1 : Nat) : Int) < (p[v].length : Int)
            · rw [if_pos hlast, if_pos (cl (v + 1)), decide_eq_false hn2]
            · rw [if_neg hlast]
          · rw [selfstabref01_Distances.j5, if_neg (by simp), wrap_id (by omega) (by omega)]
            rfl
      | false =>
        refine Ev.step (fun k => ?_) (ih (i + 1) (by omega) hrc ?_)
        · have hne : ¬ rd (midL p a (d + 1) v) (t : Int) = (d : Int) := fun h => by
            rw [(mid_old ctp).1 h] at hf
            cases hf
          rw [selfstabref01_Distances.j5, if_pos rfl, if_pos c0, if_pos cv, if_pos ci0, hrow, if_pos ci, hlink, ht, if_pos ct0, if_pos ct, cw, if_neg hne, hwrap]
        · rw [List.take_succ_eq_append_getElem hil, List.any_append, hno, Bool.false_or]
          simp only [List.any_cons, List.any_nil, Bool.or_false]
          rw [ht, Int.toNat_natCast]
          exact hf
theorem rdist_l2 (hv : (toG ids p).valid = true) (r : List Int) (d : Nat) (hd : d < p.length)
    (hnext : Ev (fun k => selfstabref01_Distances.l1 k (p.length : Int) (outL p.length (distTo p a (d + 2))) ((d + 2 : Nat) : Int) ids p) r) :
    ∀ m v, m + v = p.length → Ev (fun k => selfstabref01_Distances.l2 k (p.length : Int) (midL p a (d + 1) v) ((d + 1 : Nat) : Int) (v : Int) ids p) r := by
  obtain ⟨s1, s2, _⟩ := valid_size hv
  intro m
  induction m with
  | zero =>
    intro v hm
    obtain rfl : v = p.length := by omega
    refine Ev.step (fun k => ?_) hnext
    rw [selfstabref01_Distances.l2, if_neg (by omega), midL_end, wrap_id (by omega) (by omega)]
    rfl
  | succ m ih =>
    intro v hm
    have h := ih (v + 1) (by omega)
    have hvl : v < p.length := by omega
    have hrow : rd_L2 p (v : Int) = p[v] := by rw [rdPorts_nat, List.getD_eq_getElem?_getD, List.getElem?_eq_getElem hvl]; rfl
    have hll : (midL p a (d + 1) v).length = p.length := outL_len _ _
    refine Ev.step (fun k => by rw [selfstabref01_Distances.l2, if_pos (by omega)]) ?_
    cases hrc : Rc p a (d + 1) v with
    | false => exact rdist_l3 hv r d v hd hvl h p[v].length 0 (by omega) hrc (by simp)
    | true =>
      have hf : Fr p a (d + 1) v = false := by
        cases hf : Fr p a (d + 1) v with
        | false => rfl
        | true => rw [Fr_not_Rc hf] at hrc; cases hrc
      rw [← midL_no hf] at h
      have hn2 : ¬ rd (midL p a (d + 1) v) (v : Int) < 0 := by
        rw [midL_at hvl, if_neg (by omega), distTo_neg, hrc]; simp
      refine Ev.step (f := fun k => selfstabref01_Distances.j5 k (p.length : Int) (midL p a (d + 1) v) ((d + 1 : Nat) : Int) (v : Int) 0 false ids p) (fun k => ?_) (Ev.step (fun k => ?_) h)
      · rw [selfstabref01_Distances.l3, if_pos (by omega), if_pos (by omega), hrow]
        by_cases hlast : (0 : Int) < (p[v].length : Int)
        · rw [if_pos hlast, if_pos (by rw [hll]; omega), decide_eq_false hn2]
        · rw [if_neg hlast]
      · rw [selfstabref01_Distances.j5, if_neg (by simp), wrap_id (by omega) (by omega)]
        rfl
theorem rdist_l1 (hv : (toG ids p).valid = true) : ∀ m d, m + (d + 1) = p.length →
    Ev (fun k => selfstabref01_Distances.l1 k (p.length : Int) (outL p.length (distTo p a (d + 1))) ((d + 1 : Nat) : Int) ids p) (distL p a) := by
  obtain ⟨s1, s2, _⟩ := valid_size hv
  intro m
  induction m with
  | zero =>
    intro d hm
    refine Ev.step (f := fun _ => some (distL p a)) (fun k => ?_) Ev.some
    rw [selfstabref01_Distances.l1, if_neg (by omega)]
    unfold distL
    rw [show d + 1 = p.length from by omega]
  | succ m ih =>
    intro d hm
    refine Ev.step (fun k => ?_) (rdist_l2 (a := a) hv (distL p a) d (by omega) (ih (d + 1) (by omega)) p.length 0 (by omega))
    rw [selfstabref01_Distances.l1, if_pos (by omega), midL_zero]
    rfl
theorem rdist_l0 (hv : (toG ids p).valid = true) (ha : a < p.length) : ∀ m v, m + v = p.length →
    Ev (fun k => selfstabref01_Distances.l0 k (a : Int) (p.length : Int) (outL v fun _ => -1) (v : Int) ids p) (distL p a) := by
  obtain ⟨s1, s2, _⟩ := valid_size hv
  intro m
  induction m with
  | zero =>
    intro v hm
    obtain rfl : v = p.length := by omega
    refine Ev.step (fun k => ?_) (rdist_l1 (a := a) hv (p.length - 1) 0 (by omega))
    rw [selfstabref01_Distances.l0, if_neg (by omega), if_pos (by omega), if_pos (by rw [outL_len]; omega), Int.toNat_natCast, outL_set]
    have e1 : (outL p.length fun u => if u = a then (0 : Int) else -1) = outL p.length (distTo p a (0 + 1)) := outL_ext fun u _ => by
      show _ = if decide (u = a) = true then ((0 : Nat) : Int) else -1
      by_cases e : u = a <;> simp [e]
    rw [e1]
    rfl
  | succ m ih =>
    intro v hm
    refine Ev.step (fun k => ?_) (ih (v + 1) (by omega))
    rw [selfstabref01_Distances.l0, if_pos (by omega), if_pos (by rw [outL_len]; omega), wrap_id (by omega) (by omega), ← outL_succ]
    rfl
/-- selfstabref01.Distances. -/
theorem rdist_ev (ids : List Int) (p : List (List S60)) (a : Int) : Ev (fun k => selfstabref01_Distances.f k ids p a) (distS ids p a) := by
  unfold selfstabref01_Distances.f selfstabref01_Valid.f
  have none_ : ∀ b : Bool, b = true → Ev (fun k => selfstabref01_Distances.j0 k a b ids p) [] := fun b hb => by
    subst hb
    exact Ev.step (f := fun _ => some []) (fun k => by rw [selfstabref01_Distances.j0, if_pos rfl]) Ev.some
  cases hv : (toG ids p).valid with
  | false =>
    rw [distS_no (by rw [hv]; simp)]
    exact Ev.congr (fun k => by rw [Option.bind_some, if_neg (by simp)]) (none_ true rfl)
  | true =>
    obtain ⟨s1, s2, _⟩ := valid_size hv
    by_cases hin : 0 ≤ a ∧ a < p.length
    · obtain ⟨a, rfl⟩ := Int.eq_ofNat_of_zero_le hin.1
      rw [distS_yes hv (by omega)]
      have hin_f : selfstabref01_In.f (a : Int) 0 (wrap64 ((p.length : Int) - 1)) = some true := by
        rw [wrap_id (by omega) (by omega)]
        unfold selfstabref01_In.f
        rw [if_pos (by omega)]
        congr 1
        exact decide_eq_true (by omega)
      refine Ev.congr (fun k => by rw [Option.bind_some, if_pos rfl, hin_f, Option.bind_some]) (Ev.step (fun k => ?_) (rdist_l0 (a := a) hv (by omega) p.length 0 (by omega)))
      rw [selfstabref01_Distances.j0, if_neg (by simp)]
      rfl
    · rw [distS_no (fun h => hin h.2)]
      have hin_f : selfstabref01_In.f a 0 (wrap64 ((p.length : Int) - 1)) = some false := by
        rw [wrap_id (by omega) (by omega)]
        unfold selfstabref01_In.f
        by_cases h0 : a ≥ 0
        · rw [if_pos h0]
          congr 1
          exact decide_eq_false (by omega)
        · rw [if_neg h0]
      exact Ev.congr (fun k => by rw [Option.bind_some, if_pos rfl, hin_f, Option.bind_some]) (none_ (!false) rfl)
end
end Go.Proofs.YthapikakneikbaaG
namespace Go.Proofs.YthapikakneikbaaG
open Go.RowKit Go.Proofs.YthapikakneikbaaW.PrintWords Go.Proofs.YthapikakneikbaaW.PrintLast Go.Proofs.YthapikakneikbaaW.PrintMore
attribute [local go_sem] max2_int min2_int max_two min_two max_three min_three max_four min_four   -- for this text's walks alone
set_option linter.unusedVariables false
set_option linter.unusedSimpArgs false
def graph_Connected.l0 : Nat → List Int → List Int → Int → Int → Option (Bool)
 | 0, _, _, _, _ => none
 | k + 1, x3, x8, x9, x10 => if x10 < x9 then (if 0 ≤ x10 then (if x10 < (x8.length : Int) then (if (rd x8 x10) < 0 then (some false) else (graph_Connected.l0 k x3 x8 x9 (wrap64 (x10 + 1)))) else (none)) else (none)) else (some (decide ((x3.length : Int) > 0)))
def graph_Connected.f (k : Nat) (l0_0 : List Int) (l0_1 : List (List (S60))) : Option (Bool) := (graph_Distances.f k l0_0 l0_1 0).bind fun t443 => (graph_Connected.l0 k t443 t443 (t443.length : Int) 0)
theorem graph_Connected.mono_l : ∀ k, (∀ y0 y1 y2 y3, LeO (graph_Connected.l0 k y0 y1 y2 y3) (graph_Connected.l0 (k + 1) y0 y1 y2 y3))
 | 0 => fun _ _ _ _ r h => by simp [graph_Connected.l0] at h
 | k + 1 => by
  have ih0 := graph_Connected.mono_l k
  ·
   intro y0 y1 y2 y3
   unfold graph_Connected.l0
   repeat' first
   | (with_reducible exact ih0 _ _ _ _)
   | (with_reducible exact graph_Distances.mono _ _ _ _)
   | (with_reducible exact LeO.refl _)
   | (with_reducible exact LeO.none _)
   | (with_reducible refine LeO.ite ?_ ?_)
   | (with_reducible refine LeO.bind ?_ (fun _ => ?_))
   | exact ih0 _ _ _ _
   | exact graph_Distances.mono _ _ _ _
   | exact LeO.none _
   | refine LeO.ite ?_ ?_
   | refine LeO.bind ?_ (fun _ => ?_)
theorem graph_Connected.mono : ∀ a0 a1 k, LeO (graph_Connected.f k a0 a1) (graph_Connected.f (k + 1) a0 a1) := by
 intro a0 a1 k
 have ih0 := graph_Connected.mono_l k
 unfold graph_Connected.f
 repeat' first
   | (with_reducible exact ih0 _ _ _ _)
   | (with_reducible exact graph_Distances.mono _ _ _ _)
   | (with_reducible exact LeO.refl _)
   | (with_reducible exact LeO.none _)
   | (with_reducible refine LeO.ite ?_ ?_)
   | (with_reducible refine LeO.bind ?_ (fun _ => ?_))
   | exact ih0 _ _ _ _
   | exact graph_Distances.mono _ _ _ _
   | exact LeO.none _
   | refine LeO.ite ?_ ?_
   | refine LeO.bind ?_ (fun _ => ?_)
set_option maxHeartbeats 8000000 in
set_option maxRecDepth 100000 in
theorem graph_Connected.calls (k : Nat) (A0_0 : Option Addr) (c0_0 : Nat) (l0_0 : List Int) (A0_1 : Option Addr) (c0_1 : Nat) (l0_1 : List (List (S60))) (r : Bool) (w : World) (hr0_0 : Kd.C (Kd.int .i64) w A0_0 l0_0.length l0_0) (hc0_0 : l0_0.length ≤ c0_0) (hr0_1 : Kd.C (Kd.slice 60 k60) w A0_1 l0_1.length l0_1) (hc0_1 : l0_1.length ≤ c0_1) (h : graph_Connected.f k l0_0 l0_1 = some r) :
  Calls Try.prog 87 #[.agg #[.slice A0_0 l0_0.length c0_0, .slice A0_1 l0_1.length c0_1]] w fun e w' => e = .returned (.bool r) ∧ Below w.heap.size w w' := by
 have hu27 := Try.underlying27
 have HR0_0 := Aside0.mk hr0_0
 have HC0_0 := Aside0.mk hc0_0
 clear hr0_0 hc0_0
 have HR0_1 := Aside0.mk hr0_1
 have HC0_1 := Aside0.mk hc0_1
 clear hr0_1 hc0_1
 have HB := Aside0.mk (Below.refl w.heap.size w)
 have H : ((graph_Distances.f k l0_0 l0_1 0).bind fun t443 => (graph_Connected.l0 k t443 t443 (t443.length : Int) 0)) = some r := h
 clear h
 replace H := Option.bind_eq_some_iff.mp H
 obtain ⟨t443, A20, H⟩ := H
 replace H : (graph_Connected.l0 k t443 t443 (t443.length : Int) 0) = some r := H
 have A2 := Aside0.mk A20
 clear A20
 have H' := Aside0.mk H
 clear H
 go_enter Try.func87, Try.ntmps87
 go_wp2_with (first | ((with_reducible refine gate_dst (N := 1) rfl ?_); refine box_event ?hg (N := 1) ?hd (cs := #[.slice A0_0 l0_0.length c0_0, .slice A0_1 l0_1.length c0_1]) (t := 27) ?hr ?_; (case hd => rfl); (case hg => rfl); (case hr => first | (go_simp; done) | (go_simp; rfl)); intro gb442 hg w3 hbox hb; have n0_ := Aside0.mk (below_step (by repeat (first | (with_reducible first | exact HB.out | apply below_alloc | apply pw_below_drewN | apply below_drew1) | exact HB.out)) hb); have n1_ := Aside0.mk (hbox); have n2_ := Aside0.mk ((by rw [hg]; exact (below_size (by repeat (first | (with_reducible first | exact HB.out | apply below_alloc | apply pw_below_drewN | apply below_drew1) | exact HB.out))) : w.heap.size ≤ gb442)); have n3_ := Aside0.mk ((by rw [hg]; exact (below_size (by repeat (first | (with_reducible first | exact HB.out | apply below_alloc | apply pw_below_drewN | apply below_drew1) | exact HB.out))) : w.heap.size ≤ gb442)); clear HB; have HB := n0_; have BK442 := n1_; have GW442 := n2_; have GE442 := n3_; clear n0_ n1_ n2_ n3_; clear hb hbox hg; have hcz4_0 : w3.cell? ⟨gb442, 0, none⟩ = some (.slice A0_0 l0_0.length c0_0) := (blk_cell BK442.out 0).trans rfl; have hcz4_1 : w3.cell? ⟨gb442, 1, none⟩ = some (.slice A0_1 l0_1.length c0_1) := (blk_cell BK442.out 1).trans rfl; have hfz4_0 := blk_frozen BK442.out 0; have hfz4_1 := blk_frozen BK442.out 1) | ((with_reducible refine gate_callee (f := 90) rfl ?_); refine goesL_ (some 7) rfl rfl Try.func90 (by kernel_rfl) rfl #[.agg #[.slice A0_0 l0_0.length c0_0, .slice A0_1 l0_1.length c0_1], .int .i64 0] rfl (by (try simp only [List.map_toArray, List.map_cons, List.map_nil]); first | done | rfl | (simp only [List.length_drop, List.length_take]; rfl)) ?_; (with_reducible refine (graph_Distances.calls k _ _ l0_0 _ _ l0_1 0 t443 _ ?side1 ?side2 ?side3 ?side4 A2.out).mono ?_); (case side1 => repeat (first | exact (Kd.C_below HR0_0.out HB.out) | (with_reducible refine Kd.C_alloc ?_ _) | (with_reducible refine Kd.C_drewN ?_ _) | (with_reducible refine Kd.C_drew ?_))); (case side2 => exact HC0_0.out); (case side3 => repeat (first | exact (Kd.C_below HR0_1.out HB.out) | (with_reducible refine Kd.C_alloc ?_ _) | (with_reducible refine Kd.C_drewN ?_ _) | (with_reducible refine Kd.C_drew ?_))); (case side4 => exact HC0_1.out); rintro e w5 ⟨v444, rfl, ho0, hb⟩; refine ⟨_, rfl, ?_⟩; have n0_ := Aside0.mk (Kd.R_lower ho0 (below_size (by repeat (first | (with_reducible first | exact HB.out | apply below_alloc | apply pw_below_drewN | apply below_drew1 | refine below_set ?_ GE442.out) | exact HB.out)))); have n1_ := Aside0.mk (blk_below (g := gb442) (o := .cells #[.slice A0_0 l0_0.length c0_0, .slice A0_1 l0_1.length c0_1] 27 (0, 0)) (by (with_reducible repeat (first | refine blk_drewN ?_ _ | refine blk_drew ?_ | refine blk_alloc ?_ _)); exact BK442.out) hb); have n2_ := Aside0.mk (below_step (by repeat (first | (with_reducible first | exact HB.out | apply below_alloc | apply pw_below_drewN | apply below_drew1 | refine below_set ?_ GE442.out) | exact HB.out)) hb); clear BK442; clear HB; have HO445 := n0_; have BK442 := n1_; have HB := n2_; clear n0_ n1_ n2_; (try clear hb); (try clear hb2); (try clear hk); (try clear hi); (try clear ho0); obtain ⟨Ao6, co6, eo6⟩ := Kd.R_slice HO445.out; subst eo6))
 go_loopg [10] k (fun kq v10 w' => ∃ (x10_1 : Int), v10 = .int .i64 x10_1 ∧ Aside0 (graph_Connected.l0 kq t443 t443 (t443.length : Int) x10_1 = some r) ∧ Aside0 (kq ≤ k) ∧ Aside0 (Kd.R (Kd.int .i64) 3 w' w.heap.size (fun _ => True) (.slice Ao6 t443.length co6) t443) ∧ Aside0 (Kd.R (Kd.int .i64) 3 w' w.heap.size (fun _ => True) (.slice Ao6 t443.length co6) t443) ∧ Aside0 (w'.heap[gb442]? = some (.cells #[(.slice A0_0 l0_0.length c0_0), (.slice A0_1 l0_1.length c0_1)] 27 (0, 0))) ∧ Aside0 (Below w.heap.size w w'))
 case atStart => exact ⟨(0), (by first | rfl | (simp; done) | (simp [*]; done)), H', ⟨Nat.le_refl _⟩, ⟨by (with_reducible repeat (first | apply Kd.R_alloc | apply Kd.R_drewN | apply Kd.R_drew)); exact HO445.out⟩, ⟨by (with_reducible repeat (first | apply Kd.R_alloc | apply Kd.R_drewN | apply Kd.R_drew)); exact HO445.out⟩, ⟨by (with_reducible repeat (first | refine blk_drewN ?_ _ | refine blk_drew ?_ | refine blk_alloc ?_ _)); exact BK442.out⟩, ⟨by repeat (first | (with_reducible first | exact HB.out | apply below_alloc | apply pw_below_drewN | apply below_drew1 | refine below_set ?_ GE442.out) | exact HB.out)⟩⟩
 case round =>
  clear H'
  try clear p2
  try clear hcz4_0
  try clear hcz4_1
  try clear hfz4_0
  try clear hfz4_1
  obtain ⟨x10_1, rfl, HA, HK1, HO_3, HO_8, BK442, HB⟩ := hrel
  cases gk with
  | zero => exact absurd HA.out (by simp [graph_Connected.l0])
  | succ k1 =>
   have H := HA.out
   clear HA
   simp only [graph_Connected.l0] at H
   by_cases c7 : x10_1 < (t443.length : Int)
   ·
    rw [if_pos c7] at H
    have c7b0 : decide (x10_1 < (t443.length : Int)) = true := decide_eq_true c7
    clear c7
    by_cases c8 : 0 ≤ x10_1
    ·
     rw [if_pos c8] at H
     have c8b0 : decide (0 ≤ x10_1) = true := decide_eq_true c8
     clear c8
     by_cases c9 : x10_1 < (t443.length : Int)
     ·
      rw [if_pos c9] at H
      have c9b0 : decide (x10_1 < (t443.length : Int)) = true := decide_eq_true c9
      clear c9
      by_cases c10 : (rd t443 x10_1) < 0
      ·
       rw [if_pos c10] at H
       have c10b0 : decide ((rd t443 x10_1) < 0) = true := decide_eq_true c10
       clear c10
       obtain rfl := Option.some.inj H
       have p446 : 0 ≤ (x10_1 : Int) := of_decide_eq_true (by first | (with_reducible assumption) | assumption)
       have q446 : x10_1 < (t443.length : Int) := of_decide_eq_true (by first | (with_reducible assumption) | assumption)
       obtain ⟨ad446, e446, hx446_0⟩ := Kd.at_int (Kd.R_reads' HO_8.out).2.2 x10_1 p446 q446
       cases e446
       replace p446 := eq_true p446
       replace q446 := eq_true q446
       go_wp2
       go_ret
       exact ⟨by first | rfl | (simp [errW_none, errW_some] <;> rfl) | (simp [*, errW_none, errW_some] <;> rfl), by repeat (first | (with_reducible first | exact HB.out | apply below_alloc | apply pw_below_drewN | apply below_drew1 | refine below_set ?_ GE442.out) | exact HB.out)⟩
      ·
       rw [if_neg c10] at H
       have c10b0 : decide ((rd t443 x10_1) < 0) = false := decide_eq_false c10
       clear c10
       have H' := Aside0.mk H
       clear H
       have p446 : 0 ≤ (x10_1 : Int) := of_decide_eq_true (by first | (with_reducible assumption) | assumption)
       have q446 : x10_1 < (t443.length : Int) := of_decide_eq_true (by first | (with_reducible assumption) | assumption)
       obtain ⟨ad446, e446, hx446_0⟩ := Kd.at_int (Kd.R_reads' HO_8.out).2.2 x10_1 p446 q446
       cases e446
       replace p446 := eq_true p446
       replace q446 := eq_true q446
       go_wp2
       go_roundg k1
       case measure => have := HK1.out; omega
       case rel => exact ⟨(wrap64 (x10_1 + 1)), (by first | rfl | (simp; done) | (simp [*]; done)), H', ⟨by have := HK1.out; omega⟩, ⟨by (with_reducible repeat (first | apply Kd.R_alloc | apply Kd.R_drewN | apply Kd.R_drew)); exact HO_3.out⟩, ⟨by (with_reducible repeat (first | apply Kd.R_alloc | apply Kd.R_drewN | apply Kd.R_drew)); exact HO_8.out⟩, ⟨by (with_reducible repeat (first | refine blk_drewN ?_ _ | refine blk_drew ?_ | refine blk_alloc ?_ _)); exact BK442.out⟩, ⟨by repeat (first | (with_reducible first | exact HB.out | apply below_alloc | apply pw_below_drewN | apply below_drew1 | refine below_set ?_ GE442.out) | exact HB.out)⟩⟩
     ·
      rw [if_neg c9] at H
      exact absurd H (by simp)
    ·
     rw [if_neg c8] at H
     exact absurd H (by simp)
   ·
    rw [if_neg c7] at H
    have c7b0 : decide (x10_1 < (t443.length : Int)) = false := decide_eq_false c7
    clear c7
    obtain rfl := Option.some.inj H
    go_wp2
    go_ret
    exact ⟨by first | rfl | (simp [errW_none, errW_some] <;> rfl) | (simp [*, errW_none, errW_some] <;> rfl), by repeat (first | (with_reducible first | exact HB.out | apply below_alloc | apply pw_below_drewN | apply below_drew1 | refine below_set ?_ GE442.out) | exact HB.out)⟩
end Go.Proofs.YthapikakneikbaaG
namespace Go.Proofs.YthapikakneikbaaG
open Go.RowKit Go.Proofs.YthapikakneikbaaW.PrintWords Go.Proofs.YthapikakneikbaaW.PrintLast Go.Proofs.YthapikakneikbaaW.PrintMore
attribute [local go_sem] max2_int min2_int max_two min_two max_three min_three max_four min_four   -- for this text's walks alone
set_option linter.unusedVariables false
set_option linter.unusedSimpArgs false
def graph_Eccentricity.l0 : Nat → Int → List Int → Int → Int → Option (Int)
 | 0, _, _, _, _ => none
 | k + 1, x5, x13, x14, x15 => if x15 < x14 then (if 0 ≤ x15 then (if x15 < (x13.length : Int) then (graph_Eccentricity.l0 k (mx x5 (rd x13 x15)) x13 x14 (wrap64 (x15 + 1))) else (none)) else (none)) else (some x5)
def graph_Eccentricity.f (k : Nat) (l0_0 : List Int) (l0_1 : List (List (S60))) (a1 : Int) : Option (Int) := (graph_Connected.f k l0_0 l0_1).bind fun t472 => (if t472 = true then ((graph_Distances.f k l0_0 l0_1 a1).bind fun t473 => (graph_Eccentricity.l0 k (-1) t473 (t473.length : Int) 0)) else (some (-1)))
theorem graph_Eccentricity.mono_l : ∀ k, (∀ y0 y1 y2 y3, LeO (graph_Eccentricity.l0 k y0 y1 y2 y3) (graph_Eccentricity.l0 (k + 1) y0 y1 y2 y3))
 | 0 => fun _ _ _ _ r h => by simp [graph_Eccentricity.l0] at h
 | k + 1 => by
  have ih0 := graph_Eccentricity.mono_l k
  ·
   intro y0 y1 y2 y3
   unfold graph_Eccentricity.l0
   repeat' first
   | (with_reducible exact ih0 _ _ _ _)
   | (with_reducible exact graph_Connected.mono _ _ _)
   | (with_reducible exact graph_Distances.mono _ _ _ _)
   | (with_reducible exact LeO.refl _)
   | (with_reducible exact LeO.none _)
   | (with_reducible refine LeO.ite ?_ ?_)
   | (with_reducible refine LeO.bind ?_ (fun _ => ?_))
   | exact ih0 _ _ _ _
   | exact graph_Connected.mono _ _ _
   | exact graph_Distances.mono _ _ _ _
   | exact LeO.none _
   | refine LeO.ite ?_ ?_
   | refine LeO.bind ?_ (fun _ => ?_)
theorem graph_Eccentricity.mono : ∀ a0 a1 a2 k, LeO (graph_Eccentricity.f k a0 a1 a2) (graph_Eccentricity.f (k + 1) a0 a1 a2) := by
 intro a0 a1 a2 k
 have ih0 := graph_Eccentricity.mono_l k
 unfold graph_Eccentricity.f
 repeat' first
   | (with_reducible exact ih0 _ _ _ _)
   | (with_reducible exact graph_Connected.mono _ _ _)
   | (with_reducible exact graph_Distances.mono _ _ _ _)
   | (with_reducible exact LeO.refl _)
   | (with_reducible exact LeO.none _)
   | (with_reducible refine LeO.ite ?_ ?_)
   | (with_reducible refine LeO.bind ?_ (fun _ => ?_))
   | exact ih0 _ _ _ _
   | exact graph_Connected.mono _ _ _
   | exact graph_Distances.mono _ _ _ _
   | exact LeO.none _
   | refine LeO.ite ?_ ?_
   | refine LeO.bind ?_ (fun _ => ?_)
set_option maxHeartbeats 8000000 in
set_option maxRecDepth 100000 in
theorem graph_Eccentricity.calls (k : Nat) (A0_0 : Option Addr) (c0_0 : Nat) (l0_0 : List Int) (A0_1 : Option Addr) (c0_1 : Nat) (l0_1 : List (List (S60))) (a1 : Int) (r : Int) (w : World) (hr0_0 : Kd.C (Kd.int .i64) w A0_0 l0_0.length l0_0) (hc0_0 : l0_0.length ≤ c0_0) (hr0_1 : Kd.C (Kd.slice 60 k60) w A0_1 l0_1.length l0_1) (hc0_1 : l0_1.length ≤ c0_1) (h : graph_Eccentricity.f k l0_0 l0_1 a1 = some r) :
  Calls Try.prog 94 #[.agg #[.slice A0_0 l0_0.length c0_0, .slice A0_1 l0_1.length c0_1], .int .i64 a1] w fun e w' => e = .returned (.int .i64 r) ∧ Below w.heap.size w w' := by
 have hu27 := Try.underlying27
 have HR0_0 := Aside0.mk hr0_0
 have HC0_0 := Aside0.mk hc0_0
 clear hr0_0 hc0_0
 have HR0_1 := Aside0.mk hr0_1
 have HC0_1 := Aside0.mk hc0_1
 clear hr0_1 hc0_1
 have HB := Aside0.mk (Below.refl w.heap.size w)
 have H : ((graph_Connected.f k l0_0 l0_1).bind fun t472 => (if t472 = true then ((graph_Distances.f k l0_0 l0_1 a1).bind fun t473 => (graph_Eccentricity.l0 k (-1) t473 (t473.length : Int) 0)) else (some (-1)))) = some r := h
 clear h
 replace H := Option.bind_eq_some_iff.mp H
 obtain ⟨t472, A30, H⟩ := H
 replace H : (if t472 = true then ((graph_Distances.f k l0_0 l0_1 a1).bind fun t473 => (graph_Eccentricity.l0 k (-1) t473 (t473.length : Int) 0)) else (some (-1))) = some r := H
 have A3 := Aside0.mk A30
 clear A30
 by_cases c4 : t472 = true
 ·
  subst c4
  have H1 : ((graph_Distances.f k l0_0 l0_1 a1).bind fun t473 => (graph_Eccentricity.l0 k (-1) t473 (t473.length : Int) 0)) = some r := by rw [if_pos rfl] at H; exact H
  clear H
  have H := H1
  clear H1
  replace H := Option.bind_eq_some_iff.mp H
  obtain ⟨t473, A50, H⟩ := H
  replace H : (graph_Eccentricity.l0 k (-1) t473 (t473.length : Int) 0) = some r := H
  have A5 := Aside0.mk A50
  clear A50
  have H' := Aside0.mk H
  clear H
  go_enter Try.func94, Try.ntmps94
  go_wp2_with (first | ((with_reducible refine gate_dst (N := 2) rfl ?_); refine box_event ?hg (N := 2) ?hd (cs := #[.slice A0_0 l0_0.length c0_0, .slice A0_1 l0_1.length c0_1]) (t := 27) ?hr ?_; (case hd => rfl); (case hg => rfl); (case hr => first | (go_simp; done) | (go_simp; rfl)); intro gb471 hg w6 hbox hb; have n0_ := Aside0.mk (below_step (by repeat (first | (with_reducible first | exact HB.out | apply below_alloc | apply pw_below_drewN | apply below_drew1) | exact HB.out)) hb); have n1_ := Aside0.mk (hbox); have n2_ := Aside0.mk ((by rw [hg]; exact (below_size (by repeat (first | (with_reducible first | exact HB.out | apply below_alloc | apply pw_below_drewN | apply below_drew1) | exact HB.out))) : w.heap.size ≤ gb471)); have n3_ := Aside0.mk ((by rw [hg]; exact (below_size (by repeat (first | (with_reducible first | exact HB.out | apply below_alloc | apply pw_below_drewN | apply below_drew1) | exact HB.out))) : w.heap.size ≤ gb471)); clear HB; have HB := n0_; have BK471 := n1_; have GW471 := n2_; have GE471 := n3_; clear n0_ n1_ n2_ n3_; clear hb hbox hg; have hcz7_0 : w6.cell? ⟨gb471, 0, none⟩ = some (.slice A0_0 l0_0.length c0_0) := (blk_cell BK471.out 0).trans rfl; have hcz7_1 : w6.cell? ⟨gb471, 1, none⟩ = some (.slice A0_1 l0_1.length c0_1) := (blk_cell BK471.out 1).trans rfl; have hfz7_0 := blk_frozen BK471.out 0; have hfz7_1 := blk_frozen BK471.out 1) | ((with_reducible refine gate_callee (f := 87) rfl ?_); refine goesL_ (some 9) rfl rfl Try.func87 (by kernel_rfl) rfl #[.agg #[.slice A0_0 l0_0.length c0_0, .slice A0_1 l0_1.length c0_1]] rfl (by (try simp only [List.map_toArray, List.map_cons, List.map_nil]); first | done | rfl | (simp only [List.length_drop, List.length_take]; rfl)) ?_; (with_reducible refine (graph_Connected.calls k _ _ l0_0 _ _ l0_1 true _ ?side1 ?side2 ?side3 ?side4 A3.out).mono ?_); (case side1 => repeat (first | exact (Kd.C_below HR0_0.out HB.out) | (with_reducible refine Kd.C_alloc ?_ _) | (with_reducible refine Kd.C_drewN ?_ _) | (with_reducible refine Kd.C_drew ?_))); (case side2 => exact HC0_0.out); (case side3 => repeat (first | exact (Kd.C_below HR0_1.out HB.out) | (with_reducible refine Kd.C_alloc ?_ _) | (with_reducible refine Kd.C_drewN ?_ _) | (with_reducible refine Kd.C_drew ?_))); (case side4 => exact HC0_1.out); rintro e w8 ⟨rfl, hb⟩; refine ⟨_, rfl, ?_⟩; have n0_ := Aside0.mk (blk_below (g := gb471) (o := .cells #[.slice A0_0 l0_0.length c0_0, .slice A0_1 l0_1.length c0_1] 27 (0, 0)) (by (with_reducible repeat (first | refine blk_drewN ?_ _ | refine blk_drew ?_ | refine blk_alloc ?_ _)); exact BK471.out) hb); have n1_ := Aside0.mk (below_step (by repeat (first | (with_reducible first | exact HB.out | apply below_alloc | apply pw_below_drewN | apply below_drew1 | refine below_set ?_ GE471.out) | exact HB.out)) hb); clear BK471; clear HB; have BK471 := n0_; have HB := n1_; clear n0_ n1_; (try clear hb); (try clear hb2); (try clear hk); (try clear hi); have hcz9_0 : w8.cell? ⟨gb471, 0, none⟩ = some (.slice A0_0 l0_0.length c0_0) := (blk_cell BK471.out 0).trans rfl; have hcz9_1 : w8.cell? ⟨gb471, 1, none⟩ = some (.slice A0_1 l0_1.length c0_1) := (blk_cell BK471.out 1).trans rfl; have hfz9_0 := blk_frozen BK471.out 0; have hfz9_1 := blk_frozen BK471.out 1) | ((with_reducible refine gate_callee (f := 90) rfl ?_); refine goesL_ (some 13) rfl rfl Try.func90 (by kernel_rfl) rfl #[.agg #[.slice A0_0 l0_0.length c0_0, .slice A0_1 l0_1.length c0_1], .int .i64 a1] rfl (by (try simp only [List.map_toArray, List.map_cons, List.map_nil]); first | done | rfl | (simp only [List.length_drop, List.length_take]; rfl)) ?_; (with_reducible refine (graph_Distances.calls k _ _ l0_0 _ _ l0_1 a1 t473 _ ?side1 ?side2 ?side3 ?side4 A5.out).mono ?_); (case side1 => repeat (first | exact (Kd.C_below HR0_0.out HB.out) | (with_reducible refine Kd.C_alloc ?_ _) | (with_reducible refine Kd.C_drewN ?_ _) | (with_reducible refine Kd.C_drew ?_))); (case side2 => exact HC0_0.out); (case side3 => repeat (first | exact (Kd.C_below HR0_1.out HB.out) | (with_reducible refine Kd.C_alloc ?_ _) | (with_reducible refine Kd.C_drewN ?_ _) | (with_reducible refine Kd.C_drew ?_))); (case side4 => exact HC0_1.out); rintro e w10 ⟨v474, rfl, ho0, hb⟩; refine ⟨_, rfl, ?_⟩; have n0_ := Aside0.mk (Kd.R_lower ho0 (below_size (by repeat (first | (with_reducible first | exact HB.out | apply below_alloc | apply pw_below_drewN | apply below_drew1 | refine below_set ?_ GE471.out) | exact HB.out)))); have n1_ := Aside0.mk (blk_below (g := gb471) (o := .cells #[.slice A0_0 l0_0.length c0_0, .slice A0_1 l0_1.length c0_1] 27 (0, 0)) (by (with_reducible repeat (first | refine blk_drewN ?_ _ | refine blk_drew ?_ | refine blk_alloc ?_ _)); exact BK471.out) hb); have n2_ := Aside0.mk (below_step (by repeat (first | (with_reducible first | exact HB.out | apply below_alloc | apply pw_below_drewN | apply below_drew1 | refine below_set ?_ GE471.out) | exact HB.out)) hb); clear BK471; clear HB; have HO475 := n0_; have BK471 := n1_; have HB := n2_; clear n0_ n1_ n2_; (try clear hb); (try clear hb2); (try clear hk); (try clear hi); (try clear ho0); obtain ⟨Ao11, co11, eo11⟩ := Kd.R_slice HO475.out; subst eo11))
  go_loopg [5, 15] k (fun kq v5 v15 w' => ∃ (x5_1 : Int) (x15_1 : Int), v5 = .int .i64 x5_1 ∧ v15 = .int .i64 x15_1 ∧ Aside0 (graph_Eccentricity.l0 kq x5_1 t473 (t473.length : Int) x15_1 = some r) ∧ Aside0 (kq ≤ k) ∧ Aside0 (Kd.R (Kd.int .i64) 3 w' w.heap.size (fun _ => True) (.slice Ao11 t473.length co11) t473) ∧ Aside0 (w'.heap[gb471]? = some (.cells #[(.slice A0_0 l0_0.length c0_0), (.slice A0_1 l0_1.length c0_1)] 27 (0, 0))) ∧ Aside0 (Below w.heap.size w w'))
  case atStart => exact ⟨((-1)), (0), (by first | rfl | (simp; done) | (simp [*]; done)), (by first | rfl | (simp; done) | (simp [*]; done)), H', ⟨Nat.le_refl _⟩, ⟨by (with_reducible repeat (first | apply Kd.R_alloc | apply Kd.R_drewN | apply Kd.R_drew)); exact HO475.out⟩, ⟨by (with_reducible repeat (first | refine blk_drewN ?_ _ | refine blk_drew ?_ | refine blk_alloc ?_ _)); exact BK471.out⟩, ⟨by repeat (first | (with_reducible first | exact HB.out | apply below_alloc | apply pw_below_drewN | apply below_drew1 | refine below_set ?_ GE471.out) | exact HB.out)⟩⟩
  case round =>
   clear H'
   try clear p2
   try clear c4
   try clear c8
   try clear c9
   try clear hcz7_0
   try clear hcz7_1
   try clear hcz9_0
   try clear hcz9_1
   try clear hfz7_0
   try clear hfz7_1
   try clear hfz9_0
   try clear hfz9_1
   obtain ⟨x5_1, x15_1, rfl, rfl, HA, HK1, HO_13, BK471, HB⟩ := hrel
   cases gk with
   | zero => exact absurd HA.out (by simp [graph_Eccentricity.l0])
   | succ k1 =>
    have H := HA.out
    clear HA
    simp only [graph_Eccentricity.l0] at H
    by_cases c12 : x15_1 < (t473.length : Int)
    ·
     rw [if_pos c12] at H
     have c12b0 : decide (x15_1 < (t473.length : Int)) = true := decide_eq_true c12
     clear c12
     by_cases c13 : 0 ≤ x15_1
     ·
      rw [if_pos c13] at H
      have c13b0 : decide (0 ≤ x15_1) = true := decide_eq_true c13
      clear c13
      by_cases c14 : x15_1 < (t473.length : Int)
      ·
       rw [if_pos c14] at H
       have c14b0 : decide (x15_1 < (t473.length : Int)) = true := decide_eq_true c14
       clear c14
       obtain ⟨ji15, hji15⟩ : ∃ j_ : Int, (mx x5_1 (rd t473 x15_1)) = j_ := ⟨_, rfl⟩
       replace H : (graph_Eccentricity.l0 k1 ji15 t473 (t473.length : Int) (wrap64 (x15_1 + 1))) = some r := by first | (rw [hji15] at H; exact H) | (simp only [hji15] at H ⊢; exact H)
       have hji15_ : (if x5_1 < (rd t473 x15_1) then (rd t473 x15_1) else x5_1) = ji15 := hji15
       have H' := Aside0.mk H
       clear H
       have p476 : 0 ≤ (x15_1 : Int) := of_decide_eq_true (by first | (with_reducible assumption) | assumption)
       have q476 : x15_1 < (t473.length : Int) := of_decide_eq_true (by first | (with_reducible assumption) | assumption)
       obtain ⟨ad476, e476, hx476_0⟩ := Kd.at_int (Kd.R_reads' HO_13.out).2.2 x15_1 p476 q476
       cases e476
       replace p476 := eq_true p476
       replace q476 := eq_true q476
       go_wp2
       go_roundg k1
       case measure => have := HK1.out; omega
       case rel => exact ⟨(ji15), (wrap64 (x15_1 + 1)), (by first | rfl | (simp; done) | (simp only [← hji15] <;> (first | rfl | simp)) | (simp [*]; done)), (by first | rfl | (simp; done) | (simp [*]; done)), H', ⟨by have := HK1.out; omega⟩, ⟨by (with_reducible repeat (first | apply Kd.R_alloc | apply Kd.R_drewN | apply Kd.R_drew)); exact HO_13.out⟩, ⟨by (with_reducible repeat (first | refine blk_drewN ?_ _ | refine blk_drew ?_ | refine blk_alloc ?_ _)); exact BK471.out⟩, ⟨by repeat (first | (with_reducible first | exact HB.out | apply below_alloc | apply pw_below_drewN | apply below_drew1 | refine below_set ?_ GE471.out) | exact HB.out)⟩⟩
      ·
       rw [if_neg c14] at H
       exact absurd H (by simp)
     ·
      rw [if_neg c13] at H
      exact absurd H (by simp)
    ·
     rw [if_neg c12] at H
     have c12b0 : decide (x15_1 < (t473.length : Int)) = false := decide_eq_false c12
     clear c12
     obtain rfl := Option.some.inj H
     go_wp2
     go_ret
     exact ⟨by first | rfl | (simp [errW_none, errW_some] <;> rfl) | (simp [*, errW_none, errW_some] <;> rfl), by repeat (first | (with_reducible first | exact HB.out | apply below_alloc | apply pw_below_drewN | apply below_drew1 | refine below_set ?_ GE471.out) | exact HB.out)⟩
 ·
  replace c4 := Bool.eq_false_iff.mpr c4
  subst c4
  have H1 : (some (-1)) = some r := by rw [if_neg (show ¬ (false = true) by decide)] at H; exact H
  clear H
  have H := H1
  clear H1
  obtain rfl := Option.some.inj H
  go_enter Try.func94, Try.ntmps94
  go_wp2_with (first | ((with_reducible refine gate_dst (N := 2) rfl ?_); refine box_event ?hg (N := 2) ?hd (cs := #[.slice A0_0 l0_0.length c0_0, .slice A0_1 l0_1.length c0_1]) (t := 27) ?hr ?_; (case hd => rfl); (case hg => rfl); (case hr => first | (go_simp; done) | (go_simp; rfl)); intro gb471 hg w16 hbox hb; have n0_ := Aside0.mk (below_step (by repeat (first | (with_reducible first | exact HB.out | apply below_alloc | apply pw_below_drewN | apply below_drew1) | exact HB.out)) hb); have n1_ := Aside0.mk (hbox); have n2_ := Aside0.mk ((by rw [hg]; exact (below_size (by repeat (first | (with_reducible first | exact HB.out | apply below_alloc | apply pw_below_drewN | apply below_drew1) | exact HB.out))) : w.heap.size ≤ gb471)); have n3_ := Aside0.mk ((by rw [hg]; exact (below_size (by repeat (first | (with_reducible first | exact HB.out | apply below_alloc | apply pw_below_drewN | apply below_drew1) | exact HB.out))) : w.heap.size ≤ gb471)); clear HB; have HB := n0_; have BK471 := n1_; have GW471 := n2_; have GE471 := n3_; clear n0_ n1_ n2_ n3_; clear hb hbox hg; have hcz17_0 : w16.cell? ⟨gb471, 0, none⟩ = some (.slice A0_0 l0_0.length c0_0) := (blk_cell BK471.out 0).trans rfl; have hcz17_1 : w16.cell? ⟨gb471, 1, none⟩ = some (.slice A0_1 l0_1.length c0_1) := (blk_cell BK471.out 1).trans rfl; have hfz17_0 := blk_frozen BK471.out 0; have hfz17_1 := blk_frozen BK471.out 1) | ((with_reducible refine gate_callee (f := 87) rfl ?_); refine goesL_ (some 9) rfl rfl Try.func87 (by kernel_rfl) rfl #[.agg #[.slice A0_0 l0_0.length c0_0, .slice A0_1 l0_1.length c0_1]] rfl (by (try simp only [List.map_toArray, List.map_cons, List.map_nil]); first | done | rfl | (simp only [List.length_drop, List.length_take]; rfl)) ?_; (with_reducible refine (graph_Connected.calls k _ _ l0_0 _ _ l0_1 false _ ?side1 ?side2 ?side3 ?side4 A3.out).mono ?_); (case side1 => repeat (first | exact (Kd.C_below HR0_0.out HB.out) | (with_reducible refine Kd.C_alloc ?_ _) | (with_reducible refine Kd.C_drewN ?_ _) | (with_reducible refine Kd.C_drew ?_))); (case side2 => exact HC0_0.out); (case side3 => repeat (first | exact (Kd.C_below HR0_1.out HB.out) | (with_reducible refine Kd.C_alloc ?_ _) | (with_reducible refine Kd.C_drewN ?_ _) | (with_reducible refine Kd.C_drew ?_))); (case side4 => exact HC0_1.out); rintro e w18 ⟨rfl, hb⟩; refine ⟨_, rfl, ?_⟩; have n0_ := Aside0.mk (blk_below (g := gb471) (o := .cells #[.slice A0_0 l0_0.length c0_0, .slice A0_1 l0_1.length c0_1] 27 (0, 0)) (by (with_reducible repeat (first | refine blk_drewN ?_ _ | refine blk_drew ?_ | refine blk_alloc ?_ _)); exact BK471.out) hb); have n1_ := Aside0.mk (below_step (by repeat (first | (with_reducible first | exact HB.out | apply below_alloc | apply pw_below_drewN | apply below_drew1 | refine below_set ?_ GE471.out) | exact HB.out)) hb); clear BK471; clear HB; have BK471 := n0_; have HB := n1_; clear n0_ n1_; (try clear hb); (try clear hb2); (try clear hk); (try clear hi)))
  go_ret
  exact ⟨by first | rfl | (simp [errW_none, errW_some] <;> rfl) | (simp [*, errW_none, errW_some] <;> rfl), by repeat (first | (with_reducible first | exact HB.out | apply below_alloc | apply pw_below_drewN | apply below_drew1 | refine below_set ?_ GE471.out) | exact HB.out)⟩
end Go.Proofs.YthapikakneikbaaG
namespace Go.Proofs.YthapikakneikbaaG
open Go.RowKit Go.Proofs.YthapikakneikbaaW.PrintWords Go.Proofs.YthapikakneikbaaW.PrintLast Go.Proofs.YthapikakneikbaaW.PrintMore
attribute [local go_sem] max2_int min2_int max_two min_two max_three min_three max_four min_four   -- for this text's walks alone
set_option linter.unusedVariables false
set_option linter.unusedSimpArgs false
def selfstabref01_greatest.l0 : Nat → List Int → Int → Int → Option (Int)
 | 0, _, _, _ => none
 | k + 1, x0, x3, x4 => if x4 < (x0.length : Int) then (if 0 ≤ x4 then (if (rd x0 x4) < 0 then (some (-1)) else (selfstabref01_greatest.l0 k x0 (mx x3 (rd x0 x4)) (wrap64 (x4 + 1)))) else (none)) else (some x3)
def selfstabref01_greatest.f (k : Nat) (l0 : List Int) : Option (Int) := selfstabref01_greatest.l0 k l0 (-1) 0
theorem selfstabref01_greatest.mono_l : ∀ k, (∀ y0 y1 y2, LeO (selfstabref01_greatest.l0 k y0 y1 y2) (selfstabref01_greatest.l0 (k + 1) y0 y1 y2))
 | 0 => fun _ _ _ r h => by simp [selfstabref01_greatest.l0] at h
 | k + 1 => by
  have ih0 := selfstabref01_greatest.mono_l k
  ·
   intro y0 y1 y2
   unfold selfstabref01_greatest.l0
   repeat' first
   | (with_reducible exact ih0 _ _ _)
   | (with_reducible exact LeO.refl _)
   | (with_reducible exact LeO.none _)
   | (with_reducible refine LeO.ite ?_ ?_)
   | (with_reducible refine LeO.bind ?_ (fun _ => ?_))
   | exact ih0 _ _ _
   | exact LeO.none _
   | refine LeO.ite ?_ ?_
   | refine LeO.bind ?_ (fun _ => ?_)
theorem selfstabref01_greatest.mono : ∀ a0 k, LeO (selfstabref01_greatest.f k a0) (selfstabref01_greatest.f (k + 1) a0) := by
 intro a0 k
 have ih0 := selfstabref01_greatest.mono_l k
 unfold selfstabref01_greatest.f
 repeat' first
   | (with_reducible exact ih0 _ _ _)
   | (with_reducible exact LeO.refl _)
   | (with_reducible exact LeO.none _)
   | (with_reducible refine LeO.ite ?_ ?_)
   | (with_reducible refine LeO.bind ?_ (fun _ => ?_))
   | exact ih0 _ _ _
   | exact LeO.none _
   | refine LeO.ite ?_ ?_
   | refine LeO.bind ?_ (fun _ => ?_)
set_option maxHeartbeats 8000000 in
set_option maxRecDepth 100000 in
theorem selfstabref01_greatest.calls (k : Nat) (A0 : Option Addr) (c0 : Nat) (l0 : List Int) (r : Int) (w : World) (hr0 : Kd.C (Kd.int .i64) w A0 l0.length l0) (hc0 : l0.length ≤ c0) (h : selfstabref01_greatest.f k l0 = some r) :
  Calls Try.prog 122 #[.slice A0 l0.length c0] w fun e w' => e = .returned (.int .i64 r) ∧ Below w.heap.size w w' := by
 have HR0 := Aside0.mk hr0
 have HC0 := Aside0.mk hc0
 clear hr0 hc0
 have HB := Aside0.mk (Below.refl w.heap.size w)
 have H : (selfstabref01_greatest.l0 k l0 (-1) 0) = some r := h
 clear h
 have H' := Aside0.mk H
 clear H
 go_enter Try.func122, Try.ntmps122
 go_wp2
 go_loopg [3, 4] k (fun kq v3 v4 w' => ∃ (x3_1 : Int) (x4_1 : Int), v3 = .int .i64 x3_1 ∧ v4 = .int .i64 x4_1 ∧ Aside0 (selfstabref01_greatest.l0 kq l0 x3_1 x4_1 = some r) ∧ Aside0 (kq ≤ k) ∧ Aside0 (Below w.heap.size w w'))
 case atStart => exact ⟨((-1)), (0), (by first | rfl | (simp; done) | (simp [*]; done)), (by first | rfl | (simp; done) | (simp [*]; done)), H', ⟨Nat.le_refl _⟩, ⟨by repeat (first | (with_reducible first | exact HB.out | apply below_alloc | apply pw_below_drewN | apply below_drew1) | exact HB.out)⟩⟩
 case round =>
  clear H'
  try clear c1
  obtain ⟨x3_1, x4_1, rfl, rfl, HA, HK1, HB⟩ := hrel
  cases gk with
  | zero => exact absurd HA.out (by simp [selfstabref01_greatest.l0])
  | succ k1 =>
   have H := HA.out
   clear HA
   simp only [selfstabref01_greatest.l0] at H
   by_cases c2 : x4_1 < (l0.length : Int)
   ·
    rw [if_pos c2] at H
    have c2b0 : decide (x4_1 < (l0.length : Int)) = true := decide_eq_true c2
    clear c2
    by_cases c3 : 0 ≤ x4_1
    ·
     rw [if_pos c3] at H
     have c3b0 : decide (0 ≤ x4_1) = true := decide_eq_true c3
     clear c3
     by_cases c4 : (rd l0 x4_1) < 0
     ·
      rw [if_pos c4] at H
      have c4b0 : decide ((rd l0 x4_1) < 0) = true := decide_eq_true c4
      clear c4
      obtain rfl := Option.some.inj H
      have p543 : 0 ≤ (x4_1 : Int) := of_decide_eq_true (by first | (with_reducible assumption) | assumption)
      have q543 : x4_1 < (l0.length : Int) := of_decide_eq_true (by first | (with_reducible assumption) | assumption)
      obtain ⟨ad543, e543, hx543_0⟩ := Kd.at_int HR0.out x4_1 p543 q543
      cases e543
      replace hx543_0 := (HB.out.cell (World.block_lt_of_cell? w _ hx543_0)).trans hx543_0
      replace p543 := eq_true p543
      replace q543 := eq_true q543
      go_wp2
      go_ret
      exact ⟨by first | rfl | (simp [errW_none, errW_some] <;> rfl) | (simp [*, errW_none, errW_some] <;> rfl), by repeat (first | (with_reducible first | exact HB.out | apply below_alloc | apply pw_below_drewN | apply below_drew1) | exact HB.out)⟩
     ·
      rw [if_neg c4] at H
      have c4b0 : decide ((rd l0 x4_1) < 0) = false := decide_eq_false c4
      clear c4
      obtain ⟨ji5, hji5⟩ : ∃ j_ : Int, (mx x3_1 (rd l0 x4_1)) = j_ := ⟨_, rfl⟩
      replace H : (selfstabref01_greatest.l0 k1 l0 ji5 (wrap64 (x4_1 + 1))) = some r := by first | (rw [hji5] at H; exact H) | (simp only [hji5] at H ⊢; exact H)
      have hji5_ : (if x3_1 < (rd l0 x4_1) then (rd l0 x4_1) else x3_1) = ji5 := hji5
      have H' := Aside0.mk H
      clear H
      have p543 : 0 ≤ (x4_1 : Int) := of_decide_eq_true (by first | (with_reducible assumption) | assumption)
      have q543 : x4_1 < (l0.length : Int) := of_decide_eq_true (by first | (with_reducible assumption) | assumption)
      obtain ⟨ad543, e543, hx543_0⟩ := Kd.at_int HR0.out x4_1 p543 q543
      cases e543
      replace hx543_0 := (HB.out.cell (World.block_lt_of_cell? w _ hx543_0)).trans hx543_0
      replace p543 := eq_true p543
      replace q543 := eq_true q543
      have p544 : 0 ≤ (x4_1 : Int) := of_decide_eq_true (by first | (with_reducible assumption) | assumption)
      have q544 : x4_1 < (l0.length : Int) := of_decide_eq_true (by first | (with_reducible assumption) | assumption)
      obtain ⟨ad544, e544, hx544_0⟩ := Kd.at_int HR0.out x4_1 p544 q544
      obtain rfl : ad543 = ad544 := (by injection e544)
      replace hx544_0 := (HB.out.cell (World.block_lt_of_cell? w _ hx544_0)).trans hx544_0
      replace p544 := eq_true p544
      replace q544 := eq_true q544
      go_wp2
      go_roundg k1
      case measure => have := HK1.out; omega
      case rel => exact ⟨(ji5), (wrap64 (x4_1 + 1)), (by first | rfl | (simp; done) | (simp only [← hji5] <;> (first | rfl | simp)) | (simp [*]; done)), (by first | rfl | (simp; done) | (simp [*]; done)), H', ⟨by have := HK1.out; omega⟩, ⟨by repeat (first | (with_reducible first | exact HB.out | apply below_alloc | apply pw_below_drewN | apply below_drew1) | exact HB.out)⟩⟩
    ·
     rw [if_neg c3] at H
     exact absurd H (by simp)
   ·
    rw [if_neg c2] at H
    have c2b0 : decide (x4_1 < (l0.length : Int)) = false := decide_eq_false c2
    clear c2
    obtain rfl := Option.some.inj H
    go_wp2
    go_ret
    exact ⟨by first | rfl | (simp [errW_none, errW_some] <;> rfl) | (simp [*, errW_none, errW_some] <;> rfl), by repeat (first | (with_reducible first | exact HB.out | apply below_alloc | apply pw_below_drewN | apply below_drew1) | exact HB.out)⟩
end Go.Proofs.YthapikakneikbaaG
namespace Go.Proofs.YthapikakneikbaaG
open Go.RowKit Go.Proofs.YthapikakneikbaaW.PrintWords Go.Proofs.YthapikakneikbaaW.PrintLast Go.Proofs.YthapikakneikbaaW.PrintMore
attribute [local go_sem] max2_int min2_int max_two min_two max_three min_three max_four min_four   -- for this text's walks alone
set_option linter.unusedVariables false
set_option linter.unusedSimpArgs false
def selfstabref01_Connected.f (k : Nat) (l0_0 : List Int) (l0_1 : List (List (S60))) : Option (Bool) := (selfstabref01_Distances.f k l0_0 l0_1 0).bind fun t559 => ((selfstabref01_greatest.f k t559).bind fun t562 => (some (decide (t562 ≥ 0))))
theorem selfstabref01_Connected.mono : ∀ a0 a1 k, LeO (selfstabref01_Connected.f k a0 a1) (selfstabref01_Connected.f (k + 1) a0 a1) := by
 intro a0 a1 k
 unfold selfstabref01_Connected.f
 repeat' first
   | (with_reducible exact selfstabref01_Distances.mono _ _ _ _)
   | (with_reducible exact selfstabref01_greatest.mono _ _)
   | (with_reducible exact LeO.refl _)
   | (with_reducible exact LeO.none _)
   | (with_reducible refine LeO.ite ?_ ?_)
   | (with_reducible refine LeO.bind ?_ (fun _ => ?_))
   | exact selfstabref01_Distances.mono _ _ _ _
   | exact selfstabref01_greatest.mono _ _
   | exact LeO.none _
   | refine LeO.ite ?_ ?_
   | refine LeO.bind ?_ (fun _ => ?_)
set_option maxHeartbeats 8000000 in
set_option maxRecDepth 100000 in
theorem selfstabref01_Connected.calls (k : Nat) (A0_0 : Option Addr) (c0_0 : Nat) (l0_0 : List Int) (A0_1 : Option Addr) (c0_1 : Nat) (l0_1 : List (List (S60))) (r : Bool) (w : World) (hr0_0 : Kd.C (Kd.int .i64) w A0_0 l0_0.length l0_0) (hc0_0 : l0_0.length ≤ c0_0) (hr0_1 : Kd.C (Kd.slice 60 k60) w A0_1 l0_1.length l0_1) (hc0_1 : l0_1.length ≤ c0_1) (h : selfstabref01_Connected.f k l0_0 l0_1 = some r) :
  Calls Try.prog 88 #[.agg #[.slice A0_0 l0_0.length c0_0, .slice A0_1 l0_1.length c0_1]] w fun e w' => e = .returned (.bool r) ∧ Below w.heap.size w w' := by
 have hu27 := Try.underlying27
 have HR0_0 := Aside0.mk hr0_0
 have HC0_0 := Aside0.mk hc0_0
 clear hr0_0 hc0_0
 have HR0_1 := Aside0.mk hr0_1
 have HC0_1 := Aside0.mk hc0_1
 clear hr0_1 hc0_1
 have HB := Aside0.mk (Below.refl w.heap.size w)
 have H : ((selfstabref01_Distances.f k l0_0 l0_1 0).bind fun t559 => ((selfstabref01_greatest.f k t559).bind fun t562 => (some (decide (t562 ≥ 0))))) = some r := h
 clear h
 replace H := Option.bind_eq_some_iff.mp H
 obtain ⟨t559, A20, H⟩ := H
 replace H : ((selfstabref01_greatest.f k t559).bind fun t562 => (some (decide (t562 ≥ 0)))) = some r := H
 have A2 := Aside0.mk A20
 clear A20
 replace H := Option.bind_eq_some_iff.mp H
 obtain ⟨t562, A30, H⟩ := H
 replace H : (some (decide (t562 ≥ 0))) = some r := H
 have A3 := Aside0.mk A30
 clear A30
 obtain rfl := Option.some.inj H
 go_enter Try.func88, Try.ntmps88
 go_wp2_with (first | ((with_reducible refine gate_dst (N := 1) rfl ?_); refine box_event ?hg (N := 1) ?hd (cs := #[.slice A0_0 l0_0.length c0_0, .slice A0_1 l0_1.length c0_1]) (t := 27) ?hr ?_; (case hd => rfl); (case hg => rfl); (case hr => first | (go_simp; done) | (go_simp; rfl)); intro gb558 hg w4 hbox hb; have n0_ := Aside0.mk (below_step (by repeat (first | (with_reducible first | exact HB.out | apply below_alloc | apply pw_below_drewN | apply below_drew1) | exact HB.out)) hb); have n1_ := Aside0.mk (hbox); have n2_ := Aside0.mk ((by rw [hg]; exact (below_size (by repeat (first | (with_reducible first | exact HB.out | apply below_alloc | apply pw_below_drewN | apply below_drew1) | exact HB.out))) : w.heap.size ≤ gb558)); have n3_ := Aside0.mk ((by rw [hg]; exact (below_size (by repeat (first | (with_reducible first | exact HB.out | apply below_alloc | apply pw_below_drewN | apply below_drew1) | exact HB.out))) : w.heap.size ≤ gb558)); clear HB; have HB := n0_; have BK558 := n1_; have GW558 := n2_; have GE558 := n3_; clear n0_ n1_ n2_ n3_; clear hb hbox hg; have hcz5_0 : w4.cell? ⟨gb558, 0, none⟩ = some (.slice A0_0 l0_0.length c0_0) := (blk_cell BK558.out 0).trans rfl; have hcz5_1 : w4.cell? ⟨gb558, 1, none⟩ = some (.slice A0_1 l0_1.length c0_1) := (blk_cell BK558.out 1).trans rfl; have hfz5_0 := blk_frozen BK558.out 0; have hfz5_1 := blk_frozen BK558.out 1) | ((with_reducible refine gate_callee (f := 123) rfl ?_); refine goesL_ (some 4) rfl rfl Try.func123 (by kernel_rfl) rfl #[.agg #[.slice A0_0 l0_0.length c0_0, .slice A0_1 l0_1.length c0_1], .int .i64 0] rfl (by (try simp only [List.map_toArray, List.map_cons, List.map_nil]); first | done | rfl | (simp only [List.length_drop, List.length_take]; rfl)) ?_; (with_reducible refine (selfstabref01_Distances.calls k _ _ l0_0 _ _ l0_1 0 t559 _ ?side1 ?side2 ?side3 ?side4 A2.out).mono ?_); (case side1 => repeat (first | exact (Kd.C_below HR0_0.out HB.out) | (with_reducible refine Kd.C_alloc ?_ _) | (with_reducible refine Kd.C_drewN ?_ _) | (with_reducible refine Kd.C_drew ?_))); (case side2 => exact HC0_0.out); (case side3 => repeat (first | exact (Kd.C_below HR0_1.out HB.out) | (with_reducible refine Kd.C_alloc ?_ _) | (with_reducible refine Kd.C_drewN ?_ _) | (with_reducible refine Kd.C_drew ?_))); (case side4 => exact HC0_1.out); rintro e w6 ⟨v560, rfl, ho0, hb⟩; refine ⟨_, rfl, ?_⟩; have n0_ := Aside0.mk (Kd.R_lower ho0 (below_size (by repeat (first | (with_reducible first | exact HB.out | apply below_alloc | apply pw_below_drewN | apply below_drew1 | refine below_set ?_ GE558.out) | exact HB.out)))); have n1_ := Aside0.mk (blk_below (g := gb558) (o := .cells #[.slice A0_0 l0_0.length c0_0, .slice A0_1 l0_1.length c0_1] 27 (0, 0)) (by (with_reducible repeat (first | refine blk_drewN ?_ _ | refine blk_drew ?_ | refine blk_alloc ?_ _)); exact BK558.out) hb); have n2_ := Aside0.mk (below_step (by repeat (first | (with_reducible first | exact HB.out | apply below_alloc | apply pw_below_drewN | apply below_drew1 | refine below_set ?_ GE558.out) | exact HB.out)) hb); clear BK558; clear HB; have HO561 := n0_; have BK558 := n1_; have HB := n2_; clear n0_ n1_ n2_; (try clear hb); (try clear hb2); (try clear hk); (try clear hi); (try clear ho0); obtain ⟨Ao7, co7, eo7⟩ := Kd.R_slice HO561.out; subst eo7) | ((with_reducible refine gate_callee (f := 122) rfl ?_); refine goesL_ (some 5) rfl rfl Try.func122 (by kernel_rfl) rfl #[.slice Ao7 t559.length co7] rfl (by (try simp only [List.map_toArray, List.map_cons, List.map_nil]); first | done | rfl | (simp only [List.length_drop, List.length_take]; rfl)) ?_; (with_reducible refine (selfstabref01_greatest.calls k _ _ t559 t562 _ ?side1 ?side2 A3.out).mono ?_); (case side1 => repeat (first | exact (Kd.R_reads' HO561.out).2.2 | (with_reducible refine Kd.C_alloc ?_ _) | (with_reducible refine Kd.C_drewN ?_ _) | (with_reducible refine Kd.C_drew ?_))); (case side2 => exact (Kd.R_reads' HO561.out).2.1); rintro e w8 ⟨rfl, hb⟩; refine ⟨_, rfl, ?_⟩; have n0_ := Aside0.mk (Kd.R_below (by (with_reducible repeat (first | apply Kd.R_alloc | apply Kd.R_drewN | apply Kd.R_drew)); exact HO561.out) hb); have n1_ := Aside0.mk (blk_below (g := gb558) (o := .cells #[.slice A0_0 l0_0.length c0_0, .slice A0_1 l0_1.length c0_1] 27 (0, 0)) (by (with_reducible repeat (first | refine blk_drewN ?_ _ | refine blk_drew ?_ | refine blk_alloc ?_ _)); exact BK558.out) hb); have n2_ := Aside0.mk (below_step (by repeat (first | (with_reducible first | exact HB.out | apply below_alloc | apply pw_below_drewN | apply below_drew1 | refine below_set ?_ GE558.out) | exact HB.out)) hb); clear HO561; clear BK558; clear HB; have HO561 := n0_; have BK558 := n1_; have HB := n2_; clear n0_ n1_ n2_; (try clear hb); (try clear hb2); (try clear hk); (try clear hi)))
 go_ret
 exact ⟨by first | rfl | (simp [errW_none, errW_some] <;> rfl) | (simp [*, errW_none, errW_some] <;> rfl), by repeat (first | (with_reducible first | exact HB.out | apply below_alloc | apply pw_below_drewN | apply below_drew1 | refine below_set ?_ GE558.out) | exact HB.out)⟩
end Go.Proofs.YthapikakneikbaaG
namespace Go.Proofs.YthapikakneikbaaG
open Go.RowKit Go.Proofs.YthapikakneikbaaW.PrintWords Go.Proofs.YthapikakneikbaaW.PrintLast Go.Proofs.YthapikakneikbaaW.PrintMore
attribute [local go_sem] max2_int min2_int max_two min_two max_three min_three max_four min_four   -- for this text's walks alone
set_option linter.unusedVariables false
set_option linter.unusedSimpArgs false
def selfstabref01_Eccentricity.f (k : Nat) (l0_0 : List Int) (l0_1 : List (List (S60))) (a1 : Int) : Option (Int) := (selfstabref01_Distances.f k l0_0 l0_1 a1).bind fun t603 => ((selfstabref01_greatest.f k t603).bind fun t606 => (some t606))
theorem selfstabref01_Eccentricity.mono : ∀ a0 a1 a2 k, LeO (selfstabref01_Eccentricity.f k a0 a1 a2) (selfstabref01_Eccentricity.f (k + 1) a0 a1 a2) := by
 intro a0 a1 a2 k
 unfold selfstabref01_Eccentricity.f
 repeat' first
   | (with_reducible exact selfstabref01_Distances.mono _ _ _ _)
   | (with_reducible exact selfstabref01_greatest.mono _ _)
   | (with_reducible exact LeO.refl _)
   | (with_reducible exact LeO.none _)
   | (with_reducible refine LeO.ite ?_ ?_)
   | (with_reducible refine LeO.bind ?_ (fun _ => ?_))
   | exact selfstabref01_Distances.mono _ _ _ _
   | exact selfstabref01_greatest.mono _ _
   | exact LeO.none _
   | refine LeO.ite ?_ ?_
   | refine LeO.bind ?_ (fun _ => ?_)
set_option maxHeartbeats 8000000 in
set_option maxRecDepth 100000 in
theorem selfstabref01_Eccentricity.calls (k : Nat) (A0_0 : Option Addr) (c0_0 : Nat) (l0_0 : List Int) (A0_1 : Option Addr) (c0_1 : Nat) (l0_1 : List (List (S60))) (a1 : Int) (r : Int) (w : World) (hr0_0 : Kd.C (Kd.int .i64) w A0_0 l0_0.length l0_0) (hc0_0 : l0_0.length ≤ c0_0) (hr0_1 : Kd.C (Kd.slice 60 k60) w A0_1 l0_1.length l0_1) (hc0_1 : l0_1.length ≤ c0_1) (h : selfstabref01_Eccentricity.f k l0_0 l0_1 a1 = some r) :
  Calls Try.prog 95 #[.agg #[.slice A0_0 l0_0.length c0_0, .slice A0_1 l0_1.length c0_1], .int .i64 a1] w fun e w' => e = .returned (.int .i64 r) ∧ Below w.heap.size w w' := by
 have hu27 := Try.underlying27
 have HR0_0 := Aside0.mk hr0_0
 have HC0_0 := Aside0.mk hc0_0
 clear hr0_0 hc0_0
 have HR0_1 := Aside0.mk hr0_1
 have HC0_1 := Aside0.mk hc0_1
 clear hr0_1 hc0_1
 have HB := Aside0.mk (Below.refl w.heap.size w)
 have H : ((selfstabref01_Distances.f k l0_0 l0_1 a1).bind fun t603 => ((selfstabref01_greatest.f k t603).bind fun t606 => (some t606))) = some r := h
 clear h
 replace H := Option.bind_eq_some_iff.mp H
 obtain ⟨t603, A30, H⟩ := H
 replace H : ((selfstabref01_greatest.f k t603).bind fun t606 => (some t606)) = some r := H
 have A3 := Aside0.mk A30
 clear A30
 replace H := Option.bind_eq_some_iff.mp H
 obtain ⟨t606, A40, H⟩ := H
 replace H : (some t606) = some r := H
 have A4 := Aside0.mk A40
 clear A40
 obtain rfl := Option.some.inj H
 go_enter Try.func95, Try.ntmps95
 go_wp2_with (first | ((with_reducible refine gate_dst (N := 2) rfl ?_); refine box_event ?hg (N := 2) ?hd (cs := #[.slice A0_0 l0_0.length c0_0, .slice A0_1 l0_1.length c0_1]) (t := 27) ?hr ?_; (case hd => rfl); (case hg => rfl); (case hr => first | (go_simp; done) | (go_simp; rfl)); intro gb602 hg w5 hbox hb; have n0_ := Aside0.mk (below_step (by repeat (first | (with_reducible first | exact HB.out | apply below_alloc | apply pw_below_drewN | apply below_drew1) | exact HB.out)) hb); have n1_ := Aside0.mk (hbox); have n2_ := Aside0.mk ((by rw [hg]; exact (below_size (by repeat (first | (with_reducible first | exact HB.out | apply below_alloc | apply pw_below_drewN | apply below_drew1) | exact HB.out))) : w.heap.size ≤ gb602)); have n3_ := Aside0.mk ((by rw [hg]; exact (below_size (by repeat (first | (with_reducible first | exact HB.out | apply below_alloc | apply pw_below_drewN | apply below_drew1) | exact HB.out))) : w.heap.size ≤ gb602)); clear HB; have HB := n0_; have BK602 := n1_; have GW602 := n2_; have GE602 := n3_; clear n0_ n1_ n2_ n3_; clear hb hbox hg; have hcz6_0 : w5.cell? ⟨gb602, 0, none⟩ = some (.slice A0_0 l0_0.length c0_0) := (blk_cell BK602.out 0).trans rfl; have hcz6_1 : w5.cell? ⟨gb602, 1, none⟩ = some (.slice A0_1 l0_1.length c0_1) := (blk_cell BK602.out 1).trans rfl; have hfz6_0 := blk_frozen BK602.out 0; have hfz6_1 := blk_frozen BK602.out 1) | ((with_reducible refine gate_callee (f := 123) rfl ?_); refine goesL_ (some 7) rfl rfl Try.func123 (by kernel_rfl) rfl #[.agg #[.slice A0_0 l0_0.length c0_0, .slice A0_1 l0_1.length c0_1], .int .i64 a1] rfl (by (try simp only [List.map_toArray, List.map_cons, List.map_nil]); first | done | rfl | (simp only [List.length_drop, List.length_take]; rfl)) ?_; (with_reducible refine (selfstabref01_Distances.calls k _ _ l0_0 _ _ l0_1 a1 t603 _ ?side1 ?side2 ?side3 ?side4 A3.out).mono ?_); (case side1 => repeat (first | exact (Kd.C_below HR0_0.out HB.out) | (with_reducible refine Kd.C_alloc ?_ _) | (with_reducible refine Kd.C_drewN ?_ _) | (with_reducible refine Kd.C_drew ?_))); (case side2 => exact HC0_0.out); (case side3 => repeat (first | exact (Kd.C_below HR0_1.out HB.out) | (with_reducible refine Kd.C_alloc ?_ _) | (with_reducible refine Kd.C_drewN ?_ _) | (with_reducible refine Kd.C_drew ?_))); (case side4 => exact HC0_1.out); rintro e w7 ⟨v604, rfl, ho0, hb⟩; refine ⟨_, rfl, ?_⟩; have n0_ := Aside0.mk (Kd.R_lower ho0 (below_size (by repeat (first | (with_reducible first | exact HB.out | apply below_alloc | apply pw_below_drewN | apply below_drew1 | refine below_set ?_ GE602.out) | exact HB.out)))); have n1_ := Aside0.mk (blk_below (g := gb602) (o := .cells #[.slice A0_0 l0_0.length c0_0, .slice A0_1 l0_1.length c0_1] 27 (0, 0)) (by (with_reducible repeat (first | refine blk_drewN ?_ _ | refine blk_drew ?_ | refine blk_alloc ?_ _)); exact BK602.out) hb); have n2_ := Aside0.mk (below_step (by repeat (first | (with_reducible first | exact HB.out | apply below_alloc | apply pw_below_drewN | apply below_drew1 | refine below_set ?_ GE602.out) | exact HB.out)) hb); clear BK602; clear HB; have HO605 := n0_; have BK602 := n1_; have HB := n2_; clear n0_ n1_ n2_; (try clear hb); (try clear hb2); (try clear hk); (try clear hi); (try clear ho0); obtain ⟨Ao8, co8, eo8⟩ := Kd.R_slice HO605.out; subst eo8) | ((with_reducible refine gate_callee (f := 122) rfl ?_); refine goesL_ (some 8) rfl rfl Try.func122 (by kernel_rfl) rfl #[.slice Ao8 t603.length co8] rfl (by (try simp only [List.map_toArray, List.map_cons, List.map_nil]); first | done | rfl | (simp only [List.length_drop, List.length_take]; rfl)) ?_; (with_reducible refine (selfstabref01_greatest.calls k _ _ t603 t606 _ ?side1 ?side2 A4.out).mono ?_); (case side1 => repeat (first | exact (Kd.R_reads' HO605.out).2.2 | (with_reducible refine Kd.C_alloc ?_ _) | (with_reducible refine Kd.C_drewN ?_ _) | (with_reducible refine Kd.C_drew ?_))); (case side2 => exact (Kd.R_reads' HO605.out).2.1); rintro e w9 ⟨rfl, hb⟩; refine ⟨_, rfl, ?_⟩; have n0_ := Aside0.mk (Kd.R_below (by (with_reducible repeat (first | apply Kd.R_alloc | apply Kd.R_drewN | apply Kd.R_drew)); exact HO605.out) hb); have n1_ := Aside0.mk (blk_below (g := gb602) (o := .cells #[.slice A0_0 l0_0.length c0_0, .slice A0_1 l0_1.length c0_1] 27 (0, 0)) (by (with_reducible repeat (first | refine blk_drewN ?_ _ | refine blk_drew ?_ | refine blk_alloc ?_ _)); exact BK602.out) hb); have n2_ := Aside0.mk (below_step (by repeat (first | (with_reducible first | exact HB.out | apply below_alloc | apply pw_below_drewN | apply below_drew1 | refine below_set ?_ GE602.out) | exact HB.out)) hb); clear HO605; clear BK602; clear HB; have HO605 := n0_; have BK602 := n1_; have HB := n2_; clear n0_ n1_ n2_; (try clear hb); (try clear hb2); (try clear hk); (try clear hi)))
 go_ret
 exact ⟨by first | rfl | (simp [errW_none, errW_some] <;> rfl) | (simp [*, errW_none, errW_some] <;> rfl), by repeat (first | (with_reducible first | exact HB.out | apply below_alloc | apply pw_below_drewN | apply below_drew1 | refine below_set ?_ GE602.out) | exact HB.out)⟩
end Go.Proofs.YthapikakneikbaaG
/-
  Plain laws: connected graphs, eccentricities, first ports towards a node.
-/
namespace Go.Proofs.YthapikakneikbaaG
open Go.RowKit Go.Proofs.YthapikakneikbaaW.PrintWords Go.Proofs.YthapikakneikbaaW.PrintMore
/-- No number of the list is negative, and there is one. -/
def connS (l : List Int) : Bool := (l.all fun x => decide (0 ≤ x)) && decide (0 < l.length)
def maxS (l : List Int) : Int := l.foldl (fun m x => if m < x then x else m) (-1)
theorem take_all {l : List Int} {q : Int → Bool} {i : Nat} (h : i < l.length) : (l.take (i + 1)).all q = ((l.take i).all q && q l[i]) := by
  rw [List.take_succ_eq_append_getElem h, List.all_append]
  simp
theorem conn_l0 (l : List Int) (hl : l.length ≤ 1000) : ∀ m i, m + i = l.length → ((l.take i).all fun x => decide (0 ≤ x)) = true →
    Ev (fun k => graph_Connected.l0 k l l (l.length : Int) (i : Int)) (connS l) := by
  intro m
  induction m with
  | zero =>
    intro i hm h
    refine Ev.step (f := fun _ => some (connS l)) (fun k => ?_) Ev.some
    rw [graph_Connected.l0, if_neg (by omega)]
    rw [List.take_of_length_le (by omega)] at h
    unfold connS
    rw [h, Bool.true_and]
    congr 1
    exact decide_eq_decide.2 (by omega)
  | succ m ih =>
    intro i hm h
    have hi : i < l.length := by omega
    have hr : rd l (i : Int) = l[i] := rd_nat hi
    by_cases hx : l[i] < 0
    · refine Ev.step (f := fun _ => some (connS l)) (fun k => ?_) Ev.some
      rw [graph_Connected.l0, if_pos (by omega), if_pos (by omega), if_pos (by omega), hr, if_pos hx]
      unfold connS
      have : (l.all fun x => decide (0 ≤ x)) = false := by
        rw [List.all_eq_false]
        exact ⟨l[i], List.getElem_mem hi, by simp; omega⟩
      rw [this, Bool.false_and]
    · refine Ev.step (fun k => ?_) (ih (i + 1) (by omega) (by rw [take_all hi, h, Bool.true_and]; exact decide_eq_true (by omega)))
      rw [graph_Connected.l0, if_pos (by omega), if_pos (by omega), if_pos (by omega), hr, if_neg hx, wrap_id (by omega) (by omega)]
      rfl
theorem take_fold {l : List Int} {i : Nat} (h : i < l.length) : (l.take (i + 1)).foldl (fun m x => if m < x then x else m) (-1) = mx ((l.take i).foldl (fun m x => if m < x then x else m) (-1)) l[i] := by
  rw [List.take_succ_eq_append_getElem h, List.foldl_append]
  rfl
theorem ecc_l0 (l : List Int) (hl : l.length ≤ 1000) : ∀ m i, m + i = l.length →
    Ev (fun k => graph_Eccentricity.l0 k ((l.take i).foldl (fun m x => if m < x then x else m) (-1)) l (l.length : Int) (i : Int)) (maxS l) := by
  intro m
  induction m with
  | zero =>
    intro i hm
    refine Ev.step (f := fun _ => some (maxS l)) (fun k => ?_) Ev.some
    rw [graph_Eccentricity.l0, if_neg (by omega), List.take_of_length_le (by omega)]
    rfl
  | succ m ih =>
    intro i hm
    have hi : i < l.length := by omega
    have hr : rd l (i : Int) = l[i] := rd_nat hi
    refine Ev.step (fun k => ?_) (ih (i + 1) (by omega))
    rw [graph_Eccentricity.l0, if_pos (by omega), if_pos (by omega), if_pos (by omega), hr, ← take_fold hi, wrap_id (by omega) (by omega)]
    rfl
/-- The greatest number, or -1 if one is negative. -/
def greatS (l : List Int) : Int := if (l.all fun x => decide (0 ≤ x)) = true then maxS l else -1
theorem great_l0 (l : List Int) (hl : l.length ≤ 1000) : ∀ m i, m + i = l.length → ((l.take i).all fun x => decide (0 ≤ x)) = true →
    Ev (fun k => selfstabref01_greatest.l0 k l ((l.take i).foldl (fun m x => if m < x then x else m) (-1)) (i : Int)) (greatS l) := by
  intro m
  induction m with
  | zero =>
    intro i hm h
    refine Ev.step (f := fun _ => some (greatS l)) (fun k => ?_) Ev.some
    rw [selfstabref01_greatest.l0, if_neg (by omega)]
    rw [List.take_of_length_le (by omega)] at h ⊢
    unfold greatS
    rw [if_pos h]
    rfl
  | succ m ih =>
    intro i hm h
    have hi : i < l.length := by omega
    have hr : rd l (i : Int) = l[i] := rd_nat hi
    by_cases hx : l[i] < 0
    · refine Ev.step (f := fun _ => some (greatS l)) (fun k => ?_) Ev.some
      rw [selfstabref01_greatest.l0, if_pos (by omega), if_pos (by omega), hr, if_pos hx]
      unfold greatS
      rw [if_neg]
      rw [List.all_eq_true]
      intro hall
      have := hall _ (List.getElem_mem hi)
      simp only [decide_eq_true_eq] at this
      omega
    · refine Ev.step (fun k => ?_) (ih (i + 1) (by omega) (by rw [take_all hi, h, Bool.true_and]; exact decide_eq_true (by omega)))
      rw [selfstabref01_greatest.l0, if_pos (by omega), if_pos (by omega), hr, if_neg hx, ← take_fold hi, wrap_id (by omega) (by omega)]
      rfl
theorem distS_len (ids : List Int) (p : List (List S60)) (a : Int) : (distS ids p a).length ≤ 24 := by
  unfold distS
  split
  · rename_i h
    have := valid_size h.1
    rw [distL_len]
    omega
  · simp
theorem great_ev (l : List Int) (hl : l.length ≤ 1000) : Ev (fun k => selfstabref01_greatest.f k l) (greatS l) := great_l0 l hl l.length 0 (by omega) rfl
theorem fold_ge (l : List Int) : ∀ a : Int, a ≤ l.foldl (fun m x => if m < x then x else m) a ∧ ∀ x ∈ l, x ≤ l.foldl (fun m x => if m < x then x else m) a := by
  induction l with
  | nil => exact fun a => ⟨Int.le_refl _, fun x hx => by cases hx⟩
  | cons y r ih =>
    intro a
    obtain ⟨h1, h2⟩ := ih (if a < y then y else a)
    have h3 : a ≤ (if a < y then y else a) ∧ y ≤ (if a < y then y else a) := by split <;> omega
    simp only [List.foldl_cons]
    refine ⟨by omega, fun x hx => ?_⟩
    rcases List.mem_cons.1 hx with rfl | hx
    · omega
    · exact h2 x hx
theorem greatS_pos {l : List Int} : decide (greatS l ≥ 0) = connS l := by
  unfold greatS connS
  cases hall : (l.all fun x => decide (0 ≤ x)) with
  | false => rfl
  | true =>
    rw [if_pos rfl, Bool.true_and]
    refine decide_eq_decide.2 ?_
    cases l with
    | nil => exact ⟨(fun h => absurd h (by decide)), (fun h => absurd h (by decide))⟩
    | cons y r =>
      have h1 := (fold_ge (y :: r) (-1)).2 y List.mem_cons_self
      have h2 := List.all_eq_true.1 hall y List.mem_cons_self
      simp only [decide_eq_true_eq] at h2
      unfold maxS
      exact ⟨fun _ => by simp, fun _ => by omega⟩
section
variable (ids : List Int) (p : List (List S60))
/-- Is the graph connected? -/
def connG : Bool := connS (distS ids p 0)
theorem conn_ev : Ev (fun k => graph_Connected.f k ids p) (connG ids p) :=
  Ev.bind (dist_ev ids p 0) (conn_l0 (distS ids p 0) (by have := distS_len ids p 0; omega) (distS ids p 0).length 0 (by omega) rfl)
theorem rconn_ev : Ev (fun k => selfstabref01_Connected.f k ids p) (connG ids p) := by
  unfold selfstabref01_Connected.f
  refine Ev.bind (rdist_ev ids p 0) (Ev.bind (great_ev _ (by have := distS_len ids p 0; omega)) (Ev.some' ?_))
  exact greatS_pos
variable {ids p}
theorem conn_valid (h : connG ids p = true) : (toG ids p).valid = true := by
  unfold connG connS distS at h
  cases hv : (toG ids p).valid with
  | true => rfl
  | false =>
    rw [if_neg (by rw [hv]; simp)] at h
    simp at h
/-- In a connected graph each node has a distance from node 0. -/
theorem conn_all (h : connG ids p = true) {v : Nat} (hv : v < p.length) : 0 ≤ distTo p 0 p.length v := by
  have hV := conn_valid h
  unfold connG connS at h
  rw [Bool.and_eq_true, List.all_eq_true] at h
  have h1 := h.1 (distTo p 0 p.length v) (by
    rw [show (0 : Int) = ((0 : Nat) : Int) from rfl, distS_yes hV (by omega)]
    exact List.mem_map.2 ⟨v, List.mem_range.2 hv, rfl⟩)
  simpa using h1
theorem ecc_ev (a : Int) : Ev (fun k => graph_Eccentricity.f k ids p a) (if connG ids p = true then maxS (distS ids p a) else -1) := by
  unfold graph_Eccentricity.f
  refine Ev.bind (conn_ev ids p) ?_
  cases connG ids p with
  | false => exact Ev.congr (f := fun _ => some (-1)) (fun k => by rw [if_neg (by simp)]) Ev.some
  | true =>
    rw [if_pos rfl]
    refine Ev.congr (fun k => by rw [if_pos rfl]) (Ev.bind (dist_ev ids p a) (ecc_l0 (distS ids p a) (by have := distS_len ids p a; omega) (distS ids p a).length 0 (by omega)))
theorem recc_ev (a : Int) : Ev (fun k => selfstabref01_Eccentricity.f k ids p a) (greatS (distS ids p a)) := by
  unfold selfstabref01_Eccentricity.f
  exact Ev.bind (rdist_ev ids p a) (Ev.bind (great_ev _ (by have := distS_len ids p a; omega)) Ev.some)
/-- Neighbours' distances differ by one at most. -/
theorem dist_near {a v u : Nat} (hv : v < p.length) (hu : u < p.length) (h : adjP p u v = true) (h0 : 0 ≤ distTo p a p.length u) : 0 ≤ distTo p a p.length v ∧ distTo p a p.length v ≤ distTo p a p.length u + 1 := by
  rcases distTo_cases (p := p) (a := a) p.length u with ⟨h1, _⟩ | ⟨e, he, h1, h2⟩
  · omega
  · have hn : nx p a e p.length v = true := by
      unfold nx
      rw [List.any_eq_true]
      exact ⟨u, List.mem_range.2 hu, by rw [h1, h]; rfl⟩
    have h3 : Rc p a (e + 2) v = true := by
      rw [Rc_succ]
      cases hr : Rc p a (e + 1) v with
      | true => rfl
      | false => rw [Fr_succ, hn, Bool.true_and, Bool.false_or, ← Rc_succ, hr]; rfl
    obtain ⟨e', he', h4⟩ := Rc_iff.1 h3
    by_cases hn' : e' < p.length
    · rw [distTo_of hn' h4, h2]; omega
    · rw [Fr_late (by omega) hv] at h4; cases h4
theorem distTo_end (a v : Nat) : distTo p a p.length v ≤ p.length := by
  rcases distTo_cases (p := p) (a := a) p.length v with ⟨h1, _⟩ | ⟨e, he, h1, h2⟩ <;> omega
end
/-- In a connected graph each node has a distance from each other one. -/
theorem conn_from {ids : List Int} {p : List (List S60)} (h : connG ids p = true) {a : Nat} (ha : a < p.length) : ∀ v, v < p.length → 0 ≤ distTo p a p.length v := by
  have hV := conn_valid h
  have step : ∀ (e : Nat) (b w : Nat), w < p.length → Fr p b e w = true → 0 ≤ distTo p a p.length b → b < p.length → 0 ≤ distTo p a p.length w := by
    intro e
    induction e with
    | zero =>
      intro b w hw hf hb _
      have : w = b := of_decide_eq_true hf
      exact this ▸ hb
    | succ e ih =>
      intro b w hw hf hb hbl
      rw [Fr_succ, Bool.and_eq_true] at hf
      unfold nx at hf
      rw [List.any_eq_true] at hf
      obtain ⟨⟨u, hu, h1⟩, _⟩ := hf
      rw [Bool.and_eq_true] at h1
      have hul := List.mem_range.1 hu
      exact (dist_near hw hul h1.2 (ih b u hul h1.1 hb hbl)).1
  have back : ∀ (e : Nat) (w : Nat), w < p.length → Fr p 0 e w = true → 0 ≤ distTo p a p.length w → 0 ≤ distTo p a p.length 0 := by
    intro e
    induction e with
    | zero =>
      intro w hw hf hb
      have : w = 0 := of_decide_eq_true hf
      exact this ▸ hb
    | succ e ih =>
      intro w hw hf hb
      rw [Fr_succ, Bool.and_eq_true] at hf
      unfold nx at hf
      rw [List.any_eq_true] at hf
      obtain ⟨⟨u, hu, h1⟩, _⟩ := hf
      rw [Bool.and_eq_true] at h1
      have hul := List.mem_range.1 hu
      exact ih u hul h1.1 (dist_near hul hw (adj_sym hV hul hw h1.2) hb).1
  have ha0 : 0 ≤ distTo p a p.length a := by
    rw [distTo_of (e := 0) (by omega) (show Fr p a 0 a = true from decide_eq_true rfl)]
    omega
  have h0 : 0 ≤ distTo p a p.length 0 := by
    rcases distTo_cases (p := p) (a := 0) p.length a with ⟨h1, _⟩ | ⟨e, he, h1, _⟩
    · have := conn_all h ha; omega
    · exact back e a ha h1 ha0
  intro v hv
  rcases distTo_cases (p := p) (a := 0) p.length v with ⟨h1, _⟩ | ⟨e, he, h1, _⟩
  · have := conn_all h hv; omega
  · exact step e 0 v hv h1 h0 (by omega)
theorem greatS_conn {ids : List Int} {p : List (List S60)} (h : connG ids p = true) {a : Nat} (ha : a < p.length) : greatS (distS ids p (a : Int)) = maxS (distS ids p (a : Int)) := by
  unfold greatS
  rw [if_pos]
  rw [distS_yes (conn_valid h) ha, List.all_eq_true]
  intro x hx
  obtain ⟨v, hv, rfl⟩ := List.mem_map.1 hx
  exact decide_eq_true (conn_from h ha v (List.mem_range.1 hv))
end Go.Proofs.YthapikakneikbaaG
/-
  As Bridge, for configurations; beside the contracts of shape.Where and shape.Holds.
-/
namespace Go.Proofs.YthapikakneikbaaG
open Go.RowKit
theorem C_conf {w : World} {A : Option Addr} {n : Nat} {c : List (List Int)} (h : Go.Proofs.YthapikakneikbaaW.PrintWords.Kd.C (Go.Proofs.YthapikakneikbaaW.PrintWords.Kd.slice 3 (Go.Proofs.YthapikakneikbaaW.PrintWords.Kd.int .i64)) w A n c) : Go.Proofs.Ythapikakneikbaa.kConf.C w A c := by
  have := ((Br.int .i64).slice 3).C h
  simpa using this
end Go.Proofs.YthapikakneikbaaG
/-
  selfstabworld.Net.Tree, more, Connected, Any.
-/
namespace Go.Proofs.Ythapikakneikbaa
open Go.RowKit
structure Net where
  N : Int
  links : List Int
  weights : List Int
  ids : List Int
  ap : Bool
  back : Bool
/-- The net's lists in memory. -/
structure Net.In (x : Net) (w : World) (AL AW AI : Option Addr) : Prop where
  hL : (Kd.int .i64).C w AL x.links
  hW : (Kd.int .i64).C w AW x.weights
  hI : (Kd.int .i64).C w AI x.ids
theorem Net.In.below {x : Net} {w w1 : World} {AL AW AI : Option Addr} (h : x.In w AL AW AI) (hb : Below w.heap.size w w1) : x.In w1 AL AW AI := ⟨Kd.C_below h.hL hb, Kd.C_below h.hW hb, Kd.C_below h.hI hb⟩
def treeRows (x : Net) (n : Nat) : Nat → List (List Link)
  | 0 => List.replicate n []
  | k + 1 => linkRows x.back (treeRows x n k) (within (at0 x.links k) (k + 1)).toNat (k + 1) (1 + within (at0 x.weights k) 15)
theorem tree_good (x : Net) (n k : Nat) (hk : k + 1 ≤ n) : Good n (treeRows x n k) := by
  induction k with
  | zero => exact good_none n
  | succ k ih =>
    have h1 := within_bd (v := at0 x.links k) (m := (k : Int) + 1) (by omega)
    have h2 := within_bd (v := at0 x.weights k) (m := 15) (by omega)
    exact good_link (ih (by omega)) _ (by omega) (by omega) (by omega)
/-- What a function that makes a graph leaves: the graph's rows are the call's own. -/
def Made (B : Nat) (ids : List Int) (rows : List (List Link)) (w w' : World) (e : Ending) : Prop :=
  ∃ A c P vs, e = .returned (.agg #[.slice A ids.length c, .slice (some ⟨P, 0, none⟩) rows.length rows.length]) ∧ ids.length ≤ c ∧ w'.ownsRow B 3 1 (.slice A ids.length c) ids.length (icells ids) ∧ PortsAt w' B P vs rows ∧ Below w.heap.size w w'
theorem own_base {w : World} {base B : Nat} {e : TypeId} {size n : Nat} {v : Value} {xs : List Value} (h : w.ownsRow base e size v n xs) (hb : B ≤ base) : w.ownsRow B e size v n xs := by
  rcases h with ⟨h1, h2 | ⟨g, cap, cur, h3, h4, h5⟩⟩
  · exact ⟨h1, .inl h2⟩
  · exact ⟨h1, .inr ⟨g, cap, cur, h3, by omega, h5⟩⟩
theorem PortsAt.base {w : World} {base B P : Nat} {vs : List Value} {rows : List (List Link)} (h : PortsAt w base P vs rows) (hb : B ≤ base) : PortsAt w B P vs rows :=
  ⟨h.blk, ⟨h.rows.len, fun u v ps h1 h2 => own_base (h.rows.own u v ps h1 h2) hb, h.rows.apart, h.rows.nil⟩, by have := h.hP; omega⟩
theorem own_spared {w w1 : World} {base : Nat} {n : Nat} {v : Value} {xs : List Value} (h : w.ownsRow base 3 1 v n xs) (hs : Spared w w1) : w1.ownsRow base 3 1 v n xs := by
  rcases h with ⟨h1, h2 | ⟨g, cap, cur, h3, h4, h5, h6⟩⟩
  · exact ⟨h1, .inl h2⟩
  · exact ⟨h1, .inr ⟨g, cap, cur, h3, h4, hs g cur _ h5 (by decide) (by decide), h6⟩⟩
/-- A store into a block of another kind. -/
theorem PortsAt.setNil {w : World} {base P : Nat} {vs : List Value} {rows : List (List Link)} {p : Addr} {u : Value} {cs : Array Value} {T : TypeId} (h : PortsAt w base P vs rows) (hb : w.heap[p.block]? = some (.cells cs T (0, 0))) (h1 : T ≠ 60) (h2 : T ≠ 52) : PortsAt (w.setCell p u) base P vs rows := by
  refine ⟨blk_far h.blk fun e => ?_, h.rows.keep (grown_set w p u) fun v hv => .inr fun e => ?_, h.hP⟩
  · rw [← e, h.blk] at hb
    injection hb with hb
    injection hb with _ hb
    exact h2 hb.symm
  · obtain ⟨k, hk, rfl⟩ := List.mem_iff_getElem.1 hv
    obtain ⟨_, cells, hc⟩ := own_typed (h.rows.own k _ _ (List.getElem?_eq_getElem hk) (List.getElem?_eq_getElem (by rw [← h.rows.len]; exact hk))) p.block e
    rw [hb] at hc
    injection hc with hc
    injection hc with _ hc
    exact h1 hc
/-- What holds at the head of Tree's loop. -/
structure TreeAt (w wr : World) (cX : Array Value) (G B P n : Nat) (vI : Value) (ids : List Int) (rows : List (List Link)) : Prop where
  bX : wr.heap[w.heap.size]? = some (.cells cX 24 (0, 0))
  bR : wr.heap[w.heap.size + 1]? = some (.cells #[nilRow, nilRow] 27 (0, 0))
  bG : wr.heap[G]? = some (.cells #[vI, .slice (some ⟨P, 0, none⟩) n n] 27 (0, 0))
  len : rows.length = n
  own : wr.ownsRow B 3 1 vI n (icells ids)
  pa : ∃ vs, PortsAt wr B P vs rows
  bel : Below w.heap.size w wr
theorem TreeAt.step {w wr w5 : World} {cX : Array Value} {G B P n : Nat} {vI : Value} {ids : List Int} {rows rows' : List (List Link)} {vs' : List Value} (h : TreeAt w wr cX G B P n vI ids rows) (hB : w.heap.size ≤ B) (hl : rows'.length = n)
    (hpa : PortsAt w5 B P vs' rows') (hb : Below B wr.drew w5) (hs : Spared wr.drew w5) : TreeAt w w5 cX G B P n vI ids rows' :=
  ⟨hs _ _ _ h.bX (by decide) (by decide), hs _ _ _ h.bR (by decide) (by decide), hs _ _ _ h.bG (by decide) (by decide), hl, own_spared (w := wr.drew) h.own hs, ⟨vs', hpa⟩, h.bel.trans ⟨hb.os, hb.tape, hb.output, hb.size, fun k hk => hb.block k (by omega)⟩⟩
theorem link_n (w : World) (N : Int) (vL vW vI : Value) (ap back : Bool) (v0 : Value) (base P : Nat) (n : Nat) (vs : List Value) (rows : List (List Link)) (hp : PortsAt w base P vs rows) (hl : rows.length = n) (hbase : base ≤ w.heap.size)
    (hn : n ≤ 24) (hg : Good n rows) (ka kb : Nat) (ha : ka < n) (hb : kb < n) (wt : Int) :
    Calls Try.prog 115 #[.agg #[.int .i64 N, vL, vW, vI, .bool ap, .bool back], .agg #[v0, .slice (some ⟨P, 0, none⟩) n n], .int .i64 ka, .int .i64 kb, .int .i64 wt] w
      fun e w' => LinkPost base P (linkRows back rows ka kb wt) w w' e := by
  subst hl
  exact link_calls w N vL vW vI ap back v0 base P vs rows hp hbase hn (fun r hr => by have := good_row hg hr; omega) ka kb ha hb wt
set_option maxHeartbeats 4000000 in
set_option maxRecDepth 100000 in
theorem tree_calls (w : World) (x : Net) (AL AW AI : Option Addr) (cL cW cI : Nat) (hx : x.In w AL AW AI) (most : Int) (hm1 : 1 ≤ most) (hm2 : most ≤ 24) :
    Calls Try.prog 77 #[.agg #[.int .i64 x.N, .slice AL x.links.length cL, .slice AW x.weights.length cW, .slice AI x.ids.length cI, .bool x.ap, .bool x.back], .int .i64 most] w
      (fun e w' => Made w.heap.size (nodeIds x.ids (nodeCount x.N most)) (treeRows x (nodeCount x.N most) (nodeCount x.N most - 1)) w w' e) := by
  obtain ⟨hn1, hn2, hn3⟩ := nodeCount_bd (N := x.N) hm1
  have HX := Lib.hid hx
  clear hn3
  go_enter Try.func77, Try.ntmps77
  go_wp2_with fail
  have hb0 := ((Below.refl w.heap.size w).alloc (Nat.le_refl _) (.cells #[.int .i64 x.N, .slice AL x.links.length cL, .slice AW x.weights.length cW, .slice AI x.ids.length cI, .bool x.ap, .bool x.back] 24)).alloc (by simp) (.cells #[nilRow, nilRow] 27)
  refine (nodes_calls _ _ _ _ _ _ _ (Kd.C_below hx.hI hb0) _ _ _ hm1 (by omega)).mono ?_
  rintro e w1 ⟨vI, P, rfl, hown, hpa, hb1⟩
  have hzq := hb1.size
  simp only [World.size_alloc] at hzq hown hpa
  have hl := nodeIds_length x.ids (nodeCount x.N most)
  obtain ⟨A1, c1, hvI, hl1, _⟩ := ints_reads (xs := nodeIds x.ids (nodeCount x.N most)) (by rw [hl]; exact hown)
  rw [hl] at hl1 hvI
  subst hvI
  have hT0 : TreeAt w (w1.alloc (.cells #[.slice A1 (nodeCount x.N most) c1, .slice (some ⟨P, 0, none⟩) (nodeCount x.N most) (nodeCount x.N most)] 27)) #[.int .i64 x.N, .slice AL x.links.length cL, .slice AW x.weights.length cW, .slice AI x.ids.length cI, .bool x.ap, .bool x.back]
      w1.heap.size (w.heap.size + 1 + 1) P (nodeCount x.N most) (.slice A1 (nodeCount x.N most) c1) (nodeIds x.ids (nodeCount x.N most)) (treeRows x (nodeCount x.N most) 0) := by
    refine ⟨?_, ?_, blk_new rfl, by simp [treeRows], hown.alloc _, ⟨_, hpa.alloc _⟩, ?_⟩
    · exact blk_alloc (blk_below (blk_alloc (blk_new rfl) _) hb1) _
    · exact blk_alloc (blk_below (blk_new (by simp)) hb1) _
    · exact (hb0.trans (hb1.mono (by simp; omega))).alloc (by omega) _
  have HT0 := Lib.hid hT0
  have HGX : Hid (w.heap.size + 1 < w1.heap.size) := by unfold Hid; omega
  clear hb0 hown hpa hb1 hT0 hzq hx hl
  generalize hnn : nodeCount x.N most = n at hn1 hn2 hl1 HT0
  have HNN := Lib.hid hnn
  clear hnn
  go_wp2_with fail
  generalize w1.heap.size = G at HT0 HGX ⊢
  go_loopw [6] (fun i wr => ∃ (k : Nat), k + 1 ≤ n ∧ i = .int .i64 (k + 1 : Nat) ∧ TreeAt w wr #[.int .i64 x.N, .slice AL x.links.length cL, .slice AW x.weights.length cW, .slice AI x.ids.length cI, .bool x.ap, .bool x.back] G (w.heap.size + 1 + 1) P n (.slice A1 n c1) (nodeIds x.ids n) (treeRows x n k)) (fun i _ => n - (intOf i).toNat)
  case atStart => exact ⟨0, hn1, rfl, HT0.out⟩
  case round =>
    obtain ⟨k, hk, rfl, hT⟩ := hrel
    have HT := Lib.hid hT
    clear hT HT0
    have cG0 := blk_cell (j := 0) (v := .slice A1 n c1) HT.out.bG rfl
    have cG1 := blk_cell (j := 1) (v := .slice (some ⟨P, 0, none⟩) n n) HT.out.bG rfl
    by_cases hk2 : k + 1 < n
    · have cX0 := blk_cell (j := 0) (v := .int .i64 x.N) HT.out.bX rfl
      have cX1 := blk_cell (j := 1) (v := .slice AL x.links.length cL) HT.out.bX rfl
      have cX2 := blk_cell (j := 2) (v := .slice AW x.weights.length cW) HT.out.bX rfl
      have cX3 := blk_cell (j := 3) (v := .slice AI x.ids.length cI) HT.out.bX rfl
      have cX4 := blk_cell (j := 4) (v := .bool x.ap) HT.out.bX rfl
      have cX5 := blk_cell (j := 5) (v := .bool x.back) HT.out.bX rfl
      have HXw := Lib.hid (HX.out.below HT.out.bel)
      have h1 := within_bd (v := at0 x.links k) (m := (k : Int) + 1) (by omega)
      have h2 := within_bd (v := at0 x.weights k) (m := 15) (by omega)
      obtain ⟨la, hla⟩ : ∃ la, at0 x.links (k : Int) = la := ⟨_, rfl⟩
      obtain ⟨lb, hlb⟩ : ∃ lb, at0 x.weights (k : Int) = lb := ⟨_, rfl⟩
      have HLA := Lib.hid hla
      have HLB := Lib.hid hlb
      rw [hla] at h1
      rw [hlb] at h2
      clear hla hlb
      obtain ⟨ka, hka⟩ : ∃ ka : Nat, within la ((k : Int) + 1) = ka := ⟨_, (Int.toNat_of_nonneg h1.1).symm⟩
      have HKA := Lib.hid hka
      have hka2 : ka < k + 1 := by omega
      obtain ⟨wt, hwt⟩ : ∃ wt : Int, within lb 15 = wt := ⟨_, rfl⟩
      have HWT := Lib.hid hwt
      rw [hwt] at h2
      obtain ⟨vs, hpa⟩ := HT.out.pa
      have HPA := Lib.hid hpa
      have HXd : Hid (x.In wr.drew AL AW AI) := ⟨Kd.C_keep HXw.out.hL fun _ _ => rfl, Kd.C_keep HXw.out.hW fun _ _ => rfl, Kd.C_keep HXw.out.hI fun _ _ => rfl⟩
      have HPD : Hid (PortsAt wr.drew (w.heap.size + 1 + 1) P vs (treeRows x n k)) := ⟨HPA.out.blk, HPA.out.rows.drew, HPA.out.hP⟩
      have HG := Lib.hid (tree_good x n k (by omega))
      have HG2 := Lib.hid (tree_good x n (k + 1) (by omega))
      have HE : Hid (linkRows x.back (treeRows x n k) ka (k + 1) (1 + wt) = treeRows x n (k + 1)) := by
        unfold Hid
        rw [treeRows, HLA.out, HLB.out, HKA.out, HWT.out, Int.toNat_natCast]
      have HLS : Hid (w.heap.size + 1 + 1 ≤ wr.drew.heap.size) := by
        have := HPA.out.hP; have := blk_lt HPA.out.blk
        unfold Hid; simp; omega
      have hn24 : n ≤ 24 := by omega
      clear hka hwt h1 hpa
      go_wp2_with fail
      have hk0 : (0 : Int) ≤ (k : Int) := by omega
      have hk3 : (k : Int) + 1 ≤ 100000 := by omega
      have q1 : IntKind.i64.wrap (k : Int) = k := IntWalk.i64_in _ (by omega)
      have q2 : IntKind.i64.wrap (1 + wt) = 1 + wt := IntWalk.i64_in _ (by omega)
      have hka3 : ka < n := by omega
      go_region_held3 (fun w' => w'.cell? ⟨w.heap.size, 0, none⟩ = some (.int .i64 x.N) ∧ w'.cell? ⟨w.heap.size, 1, none⟩ = some (.slice AL x.links.length cL) ∧ w'.cell? ⟨w.heap.size, 2, none⟩ = some (.slice AW x.weights.length cW) ∧
          w'.cell? ⟨w.heap.size, 3, none⟩ = some (.slice AI x.ids.length cI) ∧ w'.cell? ⟨w.heap.size, 4, none⟩ = some (.bool x.ap) ∧ w'.cell? ⟨w.heap.size, 5, none⟩ = some (.bool x.back) ∧
          w'.cell? ⟨G, 0, none⟩ = some (.slice A1 n c1) ∧ w'.cell? ⟨G, 1, none⟩ = some (.slice (some ⟨P, 0, none⟩) n n))
        (first | exact ⟨cX0, cX1, cX2, cX3, cX4, cX5, cG0, cG1⟩ | exact ⟨d0, d1, d2, d3, d4, d5, g0, g1⟩)
        (first
          | (go_at_call 71; refine (at_calls _ _ _ _ ?_ _ hk0).mono ?_; (first | exact HXd.out.hL | exact HXd.out.hW); rintro e w3 ⟨rfl, rfl⟩; (first | rw [HLA.out] | rw [HLB.out]))
          | (go_at_call 70; refine (within_calls _ _ _ ?_).mono ?_; (first | decide | exact hk3); rintro e w3 ⟨rfl, rfl⟩; (first | rw [HKA.out] | rw [HWT.out]))
          | (go_at_call 115
             refine (link_n _ _ _ _ _ _ _ _ _ _ n _ _ HPD.out HG.out.len HLS.out hn24 HG.out ka (k + 1) hka3 hk2 _).mono ?_
             rintro e w5 ⟨rfl, ⟨vs5, hpa5⟩, hb5, hs5⟩
             rw [HE.out] at hpa5
             have HT5 := Lib.hid (HT.out.step (Nat.le_add_right _ 2) HG2.out.len hpa5 hb5 hs5)
             have d0 := blk_cell (j := 0) (v := .int .i64 x.N) HT5.out.bX rfl
             have d1 := blk_cell (j := 1) (v := .slice AL x.links.length cL) HT5.out.bX rfl
             have d2 := blk_cell (j := 2) (v := .slice AW x.weights.length cW) HT5.out.bX rfl
             have d3 := blk_cell (j := 3) (v := .slice AI x.ids.length cI) HT5.out.bX rfl
             have d4 := blk_cell (j := 4) (v := .bool x.ap) HT5.out.bX rfl
             have d5 := blk_cell (j := 5) (v := .bool x.back) HT5.out.bX rfl
             have g0 := blk_cell (j := 0) (v := .slice A1 n c1) HT5.out.bG rfl
             have g1 := blk_cell (j := 1) (v := .slice (some ⟨P, 0, none⟩) n n) HT5.out.bG rfl
             clear hpa5 hb5 hs5))
      clear q1 q2 d0 d1 d2 d3 d4 d5 g0 g1
      go_wp2_with fail
      go_roundw
      case rel => exact ⟨k + 1, by omega, by go_num, HT5.out⟩
      case measure => simp [intOf]; omega
    · have cR0 := blk_cell (j := 0) (v := nilRow) HT.out.bR rfl
      have cR1 := blk_cell (j := 1) (v := nilRow) HT.out.bR rfl
      have fR0 := blk_free 0 HT.out.bR
      have fR1 := blk_free 1 HT.out.bR
      have HKN : Hid (k = n - 1) := by unfold Hid; omega
      go_wp2_with fail
      refine bodyPost_ret (v := .agg #[.slice A1 n c1, .slice (some ⟨P, 0, none⟩) n n]) (by simp [results, Try.results77, go_sem, cR0, cR1]) rfl ?_
      rw [HNN.out, ← HKN.out]
      have hl : (nodeIds x.ids n).length = n := nodeIds_length x.ids n
      have hb1 := blk_set 0 (.slice A1 n c1) HT.out.bR (by simp)
      have ho1 := own_keep HT.out.own (grown_set wr ⟨w.heap.size + 1, 0, none⟩ (.slice A1 n c1)) (fun k hk => by cases hk; exact own_ne HT.out.own HT.out.bR (by decide))
      have ho2 := own_keep ho1 (grown_set _ ⟨w.heap.size + 1, 1, none⟩ (.slice (some ⟨P, 0, none⟩) n n)) (fun k hk => by cases hk; exact own_ne ho1 hb1 (by decide))
      obtain ⟨vs, hpa⟩ := HT.out.pa
      have hp1 := hpa.setNil (p := ⟨w.heap.size + 1, 0, none⟩) (u := .slice A1 n c1) HT.out.bR (by decide) (by decide)
      have hp2 := hp1.setNil (p := ⟨w.heap.size + 1, 1, none⟩) (u := .slice (some ⟨P, 0, none⟩) n n) hb1 (by decide) (by decide)
      exact ⟨A1, c1, P, vs, by rw [hl, HT.out.len], by rw [hl]; exact hl1, by rw [hl]; exact own_base ho2 (by omega), hp2.base (by omega), (HT.out.bel.setCell (by simp) _).setCell (by simp) _⟩
end Go.Proofs.Ythapikakneikbaa
/-
  selfstabworld.Net.more, Connected, Any.
-/
namespace Go.Proofs.Ythapikakneikbaa
open Go.RowKit
def moreFrom (x : Net) (n : Nat) : Nat → Nat → List (List Link) → List (List Link)
  | 0, _, rows => rows
  | f + 1, i, rows =>
    if i + 1 < x.links.length ∧ i < 60 then
      moreFrom x n f (i + 2) (linkRows x.back rows (within (at0 x.links i) n).toNat (within (at0 x.links (i + 1 : Nat)) n).toNat (1 + within (at0 x.weights i) 15))
    else rows
def moreRows (x : Net) (n : Nat) (rows : List (List Link)) : List (List Link) := moreFrom x n 61 n rows
theorem more_good (x : Net) (n : Nat) (hn : 1 ≤ n) (f i : Nat) {rows : List (List Link)} (h : Good n rows) : Good n (moreFrom x n f i rows) := by
  induction f generalizing i rows with
  | zero => exact h
  | succ f ih =>
    unfold moreFrom
    split
    · have h1 := within_bd (v := at0 x.links i) (m := (n : Int)) (by omega)
      have h2 := within_bd (v := at0 x.links (i + 1 : Nat)) (m := (n : Int)) (by omega)
      have h3 := within_bd (v := at0 x.weights i) (m := 15) (by omega)
      exact ih _ (good_link h _ (by omega) (by omega) (by omega))
    · exact h
/-- What holds at the head of the loop of more. -/
structure MoreAt (w wr : World) (cX cG : Array Value) (B P n : Nat) (rows : List (List Link)) : Prop where
  bX : wr.heap[w.heap.size]? = some (.cells cX 24 (0, 0))
  bG : wr.heap[w.heap.size + 1]? = some (.cells cG 27 (0, 0))
  bR : wr.heap[w.heap.size + 2]? = some (.cells #[nilRow, nilRow] 27 (0, 0))
  len : rows.length = n
  pa : ∃ vs, PortsAt wr B P vs rows
  bel : Below B w wr
  sp : Spared w wr
theorem MoreAt.step {w wr w5 : World} {cX cG : Array Value} {B P n : Nat} {rows rows' : List (List Link)} {vs' : List Value} (h : MoreAt w wr cX cG B P n rows) (hl : rows'.length = n)
    (hpa : PortsAt w5 B P vs' rows') (hb : Below B wr.drew w5) (hs : Spared wr.drew w5) : MoreAt w w5 cX cG B P n rows' :=
  ⟨hs _ _ _ h.bX (by decide) (by decide), hs _ _ _ h.bG (by decide) (by decide), hs _ _ _ h.bR (by decide) (by decide), hl, ⟨vs', hpa⟩, h.bel.trans ⟨hb.os, hb.tape, hb.output, hb.size, hb.block⟩, h.sp.drew.trans hs⟩
end Go.Proofs.Ythapikakneikbaa
/-
  selfstabworld.Net.Connected, Any.
-/
namespace Go.Proofs.Ythapikakneikbaa
open Go.RowKit
def Net.n (x : Net) (most : Int) : Nat := nodeCount x.N most
def Net.treeG (x : Net) (most : Int) : Graph := ⟨nodeIds x.ids (x.n most), treeRows x (x.n most) (x.n most - 1)⟩
def Net.connG (x : Net) (most : Int) : Graph := ⟨nodeIds x.ids (x.n most), moreRows x (x.n most) (treeRows x (x.n most) (x.n most - 1))⟩
section
variable (x : Net) {most : Int}
theorem Net.n_bd (hm : 1 ≤ most) : 1 ≤ x.n most ∧ (x.n most : Int) ≤ most := ⟨(nodeCount_bd hm).1, (nodeCount_bd hm).2.1⟩
theorem Net.tree_g (hm : 1 ≤ most) : Good (x.n most) (x.treeG most).ports := tree_good x _ _ (by have := x.n_bd hm; omega)
theorem Net.conn_g (hm : 1 ≤ most) : Good (x.n most) (x.connG most).ports := more_good x _ (x.n_bd hm).1 _ _ (x.tree_g hm)
theorem Net.conn_valid (hm : 1 ≤ most) (h2 : most ≤ 24) : (x.connG most).valid = true := by
  have h := x.n_bd hm
  have h3 := nodeIds_ok x.ids (x.n most) (by omega)
  exact good_valid (x.conn_g hm) h.1 (by omega) (nodeIds_length _ _) h3.1 h3.2
end
theorem below_drew {B : Nat} {w W : World} (h : Below B w W) : Below B w W.drew := ⟨h.os, h.tape, h.output, h.size, h.block⟩
theorem Net.In.drew {x : Net} {w : World} {AL AW AI : Option Addr} (h : x.In w AL AW AI) : x.In w.drew AL AW AI := ⟨Kd.C_keep h.hL fun _ _ => rfl, Kd.C_keep h.hW fun _ _ => rfl, Kd.C_keep h.hI fun _ _ => rfl⟩
theorem Net.In.alloc {x : Net} {w : World} {AL AW AI : Option Addr} (h : x.In w AL AW AI) (o : Obj) : x.In (w.alloc o) AL AW AI := h.below ((Below.refl _ _).alloc (Nat.le_refl _) o)
/-- What a function that makes a graph of n nodes leaves: the graph's rows are the call's own. -/
def MadeN (B n : Nat) (g : Graph) (w w' : World) (e : Ending) : Prop :=
  ∃ A c P vs, e = .returned (.agg #[.slice A n c, .slice (some ⟨P, 0, none⟩) n n]) ∧ (n ≤ c ∧ g.ids.length = n ∧ g.ports.length = n) ∧ w'.ownsRow B 3 1 (.slice A n c) n (icells g.ids) ∧ PortsAt w' B P vs g.ports ∧ Below w.heap.size w w'
theorem tree_n (w : World) (x : Net) (AL AW AI : Option Addr) (cL cW cI : Nat) (hx : x.In w AL AW AI) (most : Int) (hm1 : 1 ≤ most) (hm2 : most ≤ 24) :
    Calls Try.prog 77 #[.agg #[.int .i64 x.N, .slice AL x.links.length cL, .slice AW x.weights.length cW, .slice AI x.ids.length cI, .bool x.ap, .bool x.back], .int .i64 most] w
      (fun e w' => MadeN w.heap.size (x.n most) (x.treeG most) w w' e) := by
  refine (tree_calls w x AL AW AI cL cW cI hx most hm1 hm2).mono ?_
  rintro e w' ⟨A, c, P, vs, rfl, hc, ho, hp, hb⟩
  have h1 : (nodeIds x.ids (nodeCount x.N most)).length = x.n most := nodeIds_length _ _
  have h2 : (treeRows x (nodeCount x.N most) (nodeCount x.N most - 1)).length = x.n most := (x.tree_g hm1).len
  rw [h1] at hc ho
  exact ⟨A, c, P, vs, by rw [h1, h2], ⟨hc, h1, h2⟩, ho, hp, hb⟩
end Go.Proofs.Ythapikakneikbaa
/-
  selfstabworld.Config: a configuration of variables, made of numbers.
-/
namespace Go.Proofs.Ythapikakneikbaa
open Go.RowKit
structure Var where
  name : ByteArray
  kind : Int
  lo : Int
  hi : Int
  pn : Int
  pid : Int
def kVar : Kd Var where
  sz := 6
  K := fun _ x cs => cs = [.string x.name, .int .i64 x.kind, .int .i64 x.lo, .int .i64 x.hi, .int .i64 x.pn, .int .i64 x.pid]
  len := fun h => by rw [h]; rfl
  one := fun h u hu => by
    rw [h] at hu
    simp only [List.mem_cons, List.not_mem_nil, or_false] at hu
    rcases hu with rfl | rfl | rfl | rfl | rfl | rfl <;> rfl
  keep := fun _ h => h
theorem at_var {w : World} {A : Option Addr} {xs : List Var} (h : kVar.C w A xs) (j : Nat) (hj : j < xs.length) : ∃ ad, A = some ad ∧ w.cell? ⟨(ad.add (j * 6)).block, (ad.add (j * 6)).off + 1, none⟩ = some (.int .i64 xs[j].kind) ∧
    w.cell? ⟨(ad.add (j * 6)).block, (ad.add (j * 6)).off + 2, none⟩ = some (.int .i64 xs[j].lo) ∧ w.cell? ⟨(ad.add (j * 6)).block, (ad.add (j * 6)).off + 3, none⟩ = some (.int .i64 xs[j].hi) ∧
    w.cell? ⟨(ad.add (j * 6)).block, (ad.add (j * 6)).off + 4, none⟩ = some (.int .i64 xs[j].pn) ∧ w.cell? ⟨(ad.add (j * 6)).block, (ad.add (j * 6)).off + 5, none⟩ = some (.int .i64 xs[j].pid) := by
  obtain ⟨ad, c, e, hK, hc⟩ := Kd.C_at h j hj
  obtain rfl := hK
  refine ⟨ad, e, ?_, ?_, ?_, ?_, ?_⟩
  · rw [← add_field _ _ 1 (by omega)]; exact hc 1 _ rfl
  · rw [← add_field _ _ 2 (by omega)]; exact hc 2 _ rfl
  · rw [← add_field _ _ 3 (by omega)]; exact hc 3 _ rfl
  · rw [← add_field _ _ 4 (by omega)]; exact hc 4 _ rfl
  · rw [← add_field _ _ 5 (by omega)]; exact hc 5 _ rfl
def topOf (ids : List Int) : Int := ids.foldl max 0
def Var.lo' (v : Var) : Int := if v.kind = 2 then 0 else if v.kind = 3 then -1 else v.lo
def Var.hi' (v : Var) (n : Nat) (top : Int) (deg : Nat) : Int := if v.kind = 2 then 1 else if v.kind = 3 then (deg : Int) - 1 else v.hi + v.pn * n + v.pid * top
/-- Numbers so small that nothing wraps. -/
structure Var.Small (v : Var) : Prop where
  lo : -1000 ≤ v.lo ∧ v.lo ≤ 1000
  hi : -1000 ≤ v.hi ∧ v.hi ≤ 1000
  pn : 0 ≤ v.pn ∧ v.pn ≤ 100
  pid : 0 ≤ v.pid ∧ v.pid ≤ 100
theorem topOf_bd {ids : List Int} (h : ∀ x ∈ ids, 0 ≤ x ∧ x ≤ 255) : 0 ≤ topOf ids ∧ topOf ids ≤ 255 := by
  suffices H : ∀ (l : List Int) (a : Int), (∀ x ∈ l, 0 ≤ x ∧ x ≤ 255) → 0 ≤ a ∧ a ≤ 255 → 0 ≤ l.foldl max a ∧ l.foldl max a ≤ 255 from H ids 0 h (by omega)
  intro l
  induction l with
  | nil => intro a _ h; exact h
  | cons x r ih =>
    intro a h1 h2
    have hx := h1 x (by simp)
    exact ih (max a x) (fun y hy => h1 y (by simp [hy])) (by omega)
theorem topOf_take {ids : List Int} {k : Nat} (hk : k < ids.length) : topOf (ids.take (k + 1)) = max (topOf (ids.take k)) ids[k] := by
  unfold topOf
  rw [List.take_succ_eq_append_getElem hk, List.foldl_append]
  rfl
/-- The rows that have been made lie in blocks of the call's own. -/
structure ConfAt (w wr : World) (cG : Array Value) (B : Nat) (vO : Value) (k : Nat) (xs : List Value) (c : Conf) : Prop where
  bG : wr.heap[w.heap.size]? = some (.cells cG 27 (0, 0))
  own : wr.ownsRow B 22 1 vO k xs
  rows : ∀ (j : Nat) v r, xs[j]? = some v → c[j]? = some r → wr.ownsRow B 3 1 v r.length (icells r)
  len : c.length = k
  bel : Below w.heap.size w wr
theorem own_below {w w1 : World} {base : Nat} {e : TypeId} {size n : Nat} {v : Value} {xs : List Value} (h : w.ownsRow base e size v n xs) (hb : Below w.heap.size w w1) : w1.ownsRow base e size v n xs := by
  rcases h with ⟨h1, h2 | ⟨g, cap, cur, h3, h4, h5, h6⟩⟩
  · exact ⟨h1, .inl h2⟩
  · exact ⟨h1, .inr ⟨g, cap, cur, h3, h4, blk_below h5 hb, h6⟩⟩
theorem ConfAt.step {w wv wq w5 : World} {cG : Array Value} {B m : Nat} {vO v2 vL : Value} {k : Nat} {xs : List Value} {c : Conf} {r : List Int} {o : Obj} (h : ConfAt w wv cG B vO k xs c) (hb : Below wv.heap.size wv wq) (hr : r.length = m)
    (hl : wq.ownsRow wv.heap.size 3 1 vL m (icells r)) (ho : w5.ownsRow B 22 1 v2 (k + 1) (xs ++ [vL])) (hg : (wq.alloc o).grownBy w5 vO.ownBlock) (hB : B ≤ wv.heap.size) (hw : w.heap.size ≤ B) : ConfAt w w5 cG B v2 (k + 1) (xs ++ [vL]) (c ++ [r]) := by
  have hoq := (own_below h.own hb).alloc o
  have keep : ∀ {v : Value} {n : Nat} {ys : List Value}, wq.ownsRow B 3 1 v n ys → w5.ownsRow B 3 1 v n ys := fun hv => own_keep (hv.alloc o) hg fun b hb2 => by
    obtain ⟨_, cells, hc⟩ := own_typed0 hoq b hb2
    exact own_ne (hv.alloc o) hc (by decide)
  have hxl : xs.length = k := by have := h.own.1; omega
  refine ⟨blk_keep (blk_alloc (blk_below h.bG hb) o) hg (own_ne hoq (blk_alloc (blk_below h.bG hb) o) (by decide)), ho, fun j v r' h1 h2 => ?_, by simp [h.len], ?_⟩
  · by_cases hj : j < k
    · rw [List.getElem?_append_left (by omega)] at h1
      rw [List.getElem?_append_left (by rw [h.len]; omega)] at h2
      exact keep (own_below (h.rows j v r' h1 h2) hb)
    · rw [List.getElem?_append_right (by omega)] at h1
      rw [List.getElem?_append_right (by rw [h.len]; omega)] at h2
      rw [hxl] at h1
      rw [h.len] at h2
      obtain ⟨e1, rfl⟩ : j - k = 0 ∧ vL = v := by
        cases hjk : j - k with
        | zero => rw [hjk] at h1; simpa using h1
        | succ n => rw [hjk] at h1; simp at h1
      rw [e1] at h2
      obtain rfl : r = r' := by simpa using h2
      rw [hr]
      exact keep (own_base hl hB)
  · have hs := hb.size
    have hs2 := h.bel.size
    exact ((h.bel.trans (hb.mono hs2)).alloc (by omega) o).grown hg (by simp; omega) fun b hb2 => by have := (own_typed0 hoq b hb2).1; omega
end Go.Proofs.Ythapikakneikbaa
/-
  selfstabref23.top, Config; selfstabref31.Ones.
-/
namespace Go.Proofs.Ythapikakneikbaa
open Go.RowKit
abbrev noVar : Var := ⟨default, 0, 0, 0, 0, 0⟩
theorem top_calls (w : World) (A0 : Option Addr) (c0 : Nat) (vP : Value) (ids : List Int) (hi : (Kd.int .i64).C w A0 ids) :
    Calls Try.prog 120 #[.agg #[.slice A0 ids.length c0, vP]] w fun e w' => e = .returned (.int .i64 (topOf ids)) ∧ Below w.heap.size w w' := by
  have hb0 := (Below.refl w.heap.size w).alloc (Nat.le_refl _) (.cells #[.slice A0 ids.length c0, vP] 27)
  have bG : (w.alloc (.cells #[.slice A0 ids.length c0, vP] 27)).heap[w.heap.size]? = some (.cells #[.slice A0 ids.length c0, vP] 27 (0, 0)) := blk_new rfl
  have hi1 := Kd.C_below hi hb0
  have him := Kd.C_max hi
  go_enter Try.func120, Try.ntmps120
  go_wp2_with fail
  generalize w.alloc _ = w1 at hb0 bG hi1 ⊢
  have HB0 := Lib.hid hb0
  have HI1 := Lib.hid hi1
  have cG0 := blk_cell (j := 0) (v := .slice A0 ids.length c0) bG rfl
  clear hb0 hi1 bG hi
  go_loop [3, 4] (fun a i => ∃ v : Nat, v ≤ ids.length ∧ i = .int .i64 v ∧ a = .int .i64 (topOf (ids.take v))) (fun _ i => ids.length - (intOf i).toNat)
  case atStart => exact ⟨0, Nat.zero_le _, rfl, rfl⟩
  case round =>
    obtain ⟨v, hv, rfl, rfl⟩ := hrel
    by_cases hlt : v < ids.length
    · obtain ⟨ad, rfl, hc⟩ := Kd.at_int HI1.out v hlt
      have HT := Lib.hid (topOf_take (ids := ids) (k := v) hlt)
      generalize ids[v] = y at hc HT
      generalize topOf (ids.take v) = t at HT
      go_wp2_with fail
      go_round
      case rel => exact ⟨v + 1, by omega, by go_num, by rw [HT.out]; congr 1; omega⟩
      case measure => simp [intOf]; omega
    · have HE : Hid (topOf (ids.take v) = topOf ids) := by unfold Hid; rw [List.take_of_length_le (by omega)]
      go_wp2_with fail
      go_ret
      exact ⟨by rw [← HE.out]; rfl, HB0.out⟩
def cellOK (g : Graph) (c : Conf) (vars : List Var) (v i : Nat) : Bool :=
  inB ((c.getD v []).getD i 0) (vars.getD i noVar).lo' ((vars.getD i noVar).hi' g.ports.length (topOf g.ids) (g.ports.getD v []).length)
def crowOK (g : Graph) (c : Conf) (vars : List Var) (v : Nat) : Bool := decide ((c.getD v []).length = vars.length) && (List.range vars.length).all fun i => cellOK g c vars v i
/-- c is a configuration of the variables on a valid graph. -/
def confB (g : Graph) (c : Conf) (vars : List Var) : Bool := g.valid && decide (c.length = g.ports.length) && (List.range g.ports.length).all fun v => crowOK g c vars v
theorem conf_bad {g : Graph} {c : Conf} {vars : List Var} (h : g.valid = false ∨ c.length ≠ g.ports.length ∨ ∃ v, v < g.ports.length ∧ crowOK g c vars v = false) : confB g c vars = false := not_true fun hb => by
  simp only [confB, Bool.and_eq_true, decide_eq_true_eq, List.all_eq_true, List.mem_range] at hb
  rcases h with h | h | ⟨v, hv, h⟩
  · rw [hb.1.1] at h; cases h
  · exact h hb.1.2
  · rw [hb.2 v hv] at h; cases h
theorem conf_good {g : Graph} {c : Conf} {vars : List Var} (h1 : g.valid = true) (h2 : c.length = g.ports.length) (h3 : ∀ v, v < g.ports.length → crowOK g c vars v = true) : confB g c vars = true := by
  simp only [confB, Bool.and_eq_true, decide_eq_true_eq, List.all_eq_true, List.mem_range]
  exact ⟨⟨h1, h2⟩, h3⟩
theorem crow_bad {g : Graph} {c : Conf} {vars : List Var} {v : Nat} (h : (c.getD v []).length ≠ vars.length ∨ ∃ i, i < vars.length ∧ cellOK g c vars v i = false) : crowOK g c vars v = false := not_true fun hb => by
  simp only [crowOK, Bool.and_eq_true, decide_eq_true_eq, List.all_eq_true, List.mem_range] at hb
  rcases h with h | ⟨i, hi, h⟩
  · exact h hb.1
  · rw [hb.2 i hi] at h; cases h
theorem crow_good {g : Graph} {c : Conf} {vars : List Var} {v : Nat} (h1 : (c.getD v []).length = vars.length) (h2 : ∀ i, i < vars.length → cellOK g c vars v i = true) : crowOK g c vars v = true := by
  simp only [crowOK, Bool.and_eq_true, decide_eq_true_eq, List.all_eq_true, List.mem_range]
  exact ⟨h1, h2⟩
set_option maxHeartbeats 8000000 in
set_option maxRecDepth 100000 in
theorem refconf_calls (w : World) (A0 : Option Addr) (c0 : Nat) (A1 : Option Addr) (c1 : Nat) (g : Graph) (hg : IsGraph w A0 c0 A1 c1 g) (A2 : Option Addr) (c2 : Nat) (c : Conf) (hc : kConf.C w A2 c) (AV : Option Addr) (cV : Nat) (vars : List Var) (hv : kVar.C w AV vars) (hv1 : vars.length ≤ 100) (hvs : ∀ v ∈ vars, v.Small) :
    Calls Try.prog 83 #[.agg #[.slice A0 g.ids.length c0, .slice A1 g.ports.length c1], .slice A2 c.length c2, .slice AV vars.length cV] w fun e w' => e = .returned (.bool (confB g c vars)) ∧ Below w.heap.size w w' := by
  have hg1 := hg.below ((Below.refl w.heap.size w).alloc (Nat.le_refl _) (.cells #[.slice A0 g.ids.length c0, .slice A1 g.ports.length c1] 27))
  have HG := Lib.hid hg
  have HC := Lib.hid hc
  have HVV := Lib.hid hv
  have HVS := Lib.hid hvs
  have hcm := Kd.C_max hc
  clear hg hc hv hvs
  cases hV : g.valid with
  | false =>
    have HE : Hid (confB g c vars = false) := conf_bad (.inl hV)
    have HV := Lib.hid hV
    clear hV
    go_enter Try.func83, Try.ntmps83
    go_wp2_with fail
    refine (refvalid_calls _ _ _ _ _ _ hg1).mono ?_
    rintro e w1 ⟨rfl, hb1⟩
    rw [HV.out]
    obtain ⟨_, _, _, hbw⟩ := box2 hb1
    have HB := Lib.hid hbw
    clear hb1 hbw
    go_wp2_with fail
    go_ret
    exact ⟨by rw [HE.out]; rfl, HB.out⟩
  | true =>
    have HV := Lib.hid hV
    obtain ⟨hn1, hn2, hn3⟩ := valid_size hV
    have hids := ((valid_iff g).1 hV).2.1
    have HTB : Hid (0 ≤ topOf g.ids ∧ topOf g.ids ≤ 255) := topOf_bd fun x hx => by have := hids x hx; simpa [okID] using this
    have HN3 := Lib.hid hn3
    clear hV hn3 hids
    by_cases hlen : c.length = g.ports.length
    · have t1 : ((c.length : Int) != (g.ports.length : Int)) = false := by rw [hlen]; simp
      have HLEN := Lib.hid hlen
      clear hlen
      go_enter Try.func83, Try.ntmps83
      go_wp2_with fail
      have bG : (w.alloc (.cells #[.slice A0 g.ids.length c0, .slice A1 g.ports.length c1] 27)).heap[w.heap.size]? = some (.cells #[.slice A0 g.ids.length c0, .slice A1 g.ports.length c1] 27 (0, 0)) := blk_new rfl
      have hb0 := (Below.refl w.heap.size w).alloc (Nat.le_refl _) (.cells #[.slice A0 g.ids.length c0, .slice A1 g.ports.length c1] 27)
      refine (refvalid_calls _ _ _ _ _ _ hg1).mono ?_
      rintro e w1 ⟨rfl, hb1⟩
      rw [HV.out]
      have HB1 := Lib.hid (hb0.trans (hb1.mono (by simp)))
      have HBG1 := Lib.hid (blk_below bG hb1)
      clear hb1 hb0 bG hg1
      go_wp2_with fail
      clear t1
      go_loopw [8] (fun j wr => ∃ v : Nat, v ≤ g.ports.length ∧ j = .int .i64 v ∧ (∀ u, u < v → crowOK g c vars u = true) ∧ Below w.heap.size w wr ∧ wr.heap[w.heap.size]? = some (.cells #[.slice A0 g.ids.length c0, .slice A1 g.ports.length c1] 27 (0, 0))) (fun j _ => g.ports.length - (intOf j).toNat)
      case atStart => exact ⟨0, Nat.zero_le _, rfl, fun _ h => absurd h (Nat.not_lt_zero _), HB1.out, HBG1.out⟩
      case round =>
        obtain ⟨wz, rfl⟩ : ∃ wz : World, wz = wr := ⟨_, rfl⟩
        obtain ⟨v, hvn, rfl, hrow, hbz, hgz⟩ := hrel
        have HROW := Lib.hid hrow
        have HBZ := Lib.hid hbz
        have HGZ := Lib.hid hgz
        clear hrow hbz hgz HB1 HBG1
        by_cases hlt : v < g.ports.length
        · have hvc : v < c.length := by have := HLEN.out; omega
          obtain ⟨ad, AR, cR, rfl, hcell, hlr, hCr⟩ := Kd.at_slice (Kd.C_below HC.out HBZ.out) v hvc
          have HRW : Hid (c.getD v [] = c[v]) := by unfold Hid; simp [List.getD_eq_getElem?_getD, hvc]
          generalize c[v] = row at hcell hlr hCr HRW
          have hrm := Kd.C_max hCr
          have HCr := Lib.hid hCr
          clear hCr
          have hvL : (v : Int) < (c.length : Int) := by omega
          by_cases hwid : row.length = vars.length
          · have t2 : ((row.length : Int) != (vars.length : Int)) = false := by rw [hwid]; simp
            have HWID := Lib.hid hwid
            clear hwid
            go_wp2_with fail
            clear t2 hcell
            go_loopw [9] (fun j wr => ∃ i : Nat, i ≤ vars.length ∧ j = .int .i64 i ∧ (∀ u, u < i → cellOK g c vars v u = true) ∧ Below w.heap.size w wr ∧ wr.heap[w.heap.size]? = some (.cells #[.slice A0 g.ids.length c0, .slice A1 g.ports.length c1] 27 (0, 0))) (fun j _ => vars.length - (intOf j).toNat)
            case atStart => exact ⟨0, Nat.zero_le _, rfl, fun _ h => absurd h (Nat.not_lt_zero _), HBZ.out, HGZ.out⟩
            case round =>
              obtain ⟨wq, rfl⟩ : ∃ wq : World, wq = wr := ⟨_, rfl⟩
              obtain ⟨i, hi, rfl, hok, hbq, hgq⟩ := hrel
              have HOK := Lib.hid hok
              have HBQ := Lib.hid hbq
              have HGQ := Lib.hid hgq
              have cG0 := blk_cell (j := 0) (v := .slice A0 g.ids.length c0) hgq rfl
              have cG1 := blk_cell (j := 1) (v := .slice A1 g.ports.length c1) hgq rfl
              clear hok hbq hgq
              by_cases hil : i < vars.length
              · obtain ⟨adv, rfl, ck, cl, ch, cn, cp⟩ := at_var (Kd.C_below HVV.out HBQ.out) i hil
                have hsm := HVS.out vars[i] (List.getElem_mem hil)
                have hir : i < row.length := by have := HWID.out; omega
                have HX : Hid (vars.getD i noVar = vars[i]) := by unfold Hid; simp [List.getD_eq_getElem?_getD, hil]
                have HD : Hid (g.ports.getD v [] = g.ports[v]) := by unfold Hid; simp [List.getD_eq_getElem?_getD, hlt]
                have HZ : Hid (row.getD i 0 = row[i]) := by unfold Hid; simp [List.getD_eq_getElem?_getD, hir]
                have hpr := row_short HV.out hlt
                rw [HD.out] at hpr
                generalize hx : vars[i] = x at ck cl ch cn cp hsm HX
                generalize hpr0 : g.ports[v] = pr at hpr HD
                generalize hz : row[i] = z at HZ
                have HZ2 : Hid (∀ h : i < row.length, row[i] = z) := fun _ => hz
                have HP2 : Hid (∀ h : v < g.ports.length, g.ports[v] = pr) := fun _ => hpr0
                have HX2 : Hid (∀ h : i < vars.length, vars[i] = x) := fun _ => hx
                clear hz hpr0 hx
                have htb := HTB.out
                obtain ⟨tp, htp⟩ : ∃ t, topOf g.ids = t := ⟨_, rfl⟩
                have HTP := Lib.hid htp
                rw [htp] at htb
                clear htp
                obtain ⟨p1, hp1⟩ : ∃ p, x.pn * (g.ports.length : Int) = p := ⟨_, rfl⟩
                obtain ⟨p2, hp2⟩ : ∃ p, x.pid * tp = p := ⟨_, rfl⟩
                have b1 : 0 ≤ p1 ∧ p1 ≤ 2400 := by
                  rw [← hp1]
                  refine ⟨Int.mul_nonneg hsm.pn.1 (by omega), ?_⟩
                  have := Int.mul_le_mul hsm.pn.2 (show (g.ports.length : Int) ≤ 24 by omega) (by omega) (by omega)
                  omega
                have b2 : 0 ≤ p2 ∧ p2 ≤ 25500 := by
                  rw [← hp2]
                  refine ⟨Int.mul_nonneg hsm.pid.1 htb.1, ?_⟩
                  have := Int.mul_le_mul hsm.pid.2 htb.2 htb.1 (by omega)
                  omega
                obtain ⟨s1, s2, s3, s4⟩ := hsm
                have HCELL : Hid (∀ lo hi : Int, lo = x.lo' → hi = x.hi' g.ports.length tp pr.length → cellOK g c vars v i = inB z lo hi) := by
                  rintro lo hi rfl rfl
                  unfold cellOK
                  rw [HX.out, HD.out, HTP.out, HRW.out, HZ.out]
                have HBAD : Hid (cellOK g c vars v i = false → confB g c vars = false) := fun h => conf_bad (.inr (.inr ⟨v, hlt, crow_bad (.inr ⟨i, hil, h⟩)⟩))
                have HNX : Hid (cellOK g c vars v i = true → ∀ u, u < i + 1 → cellOK g c vars v u = true) := fun h u hu => by
                  by_cases e : u = i
                  · rw [e]; exact h
                  · exact HOK.out u (by omega)
                have HIQ : Hid ((Kd.int .i64).C wq.drew A0 g.ids) := Kd.C_keep (HG.out.below HBQ.out).ids (fun _ _ => rfl)
                have HBD : Hid (Below w.heap.size w wq.drew) := below_drew HBQ.out
                have HGD : Hid (wq.drew.heap[w.heap.size]? = some (.cells #[.slice A0 g.ids.length c0, .slice A1 g.ports.length c1] 27 (0, 0))) := HGQ.out
                clear HX HD HZ
                go_wp2_with fail
                have q1 : IntKind.i64.wrap p1 = p1 := IntWalk.i64_in _ (by omega)
                have q2 : IntKind.i64.wrap p2 = p2 := IntWalk.i64_in _ (by omega)
                have q3 : IntKind.i64.wrap (x.hi + p1) = x.hi + p1 := IntWalk.i64_in _ (by omega)
                have q4 : IntKind.i64.wrap (x.hi + p1 + p2) = x.hi + p1 + p2 := IntWalk.i64_in _ (by omega)
                have k1 : (i : Int) < (vars.length : Int) := by omega
                have k2 : (0 : Int) ≤ (i : Int) := by omega
                go_region_held3 (fun w' => w'.cell? ⟨w.heap.size, 0, none⟩ = some (.slice A0 g.ids.length c0) ∧ w'.cell? ⟨w.heap.size, 1, none⟩ = some (.slice A1 g.ports.length c1) ∧ w'.cell? ⟨(adv.add (i * 6)).block, (adv.add (i * 6)).off + 2, none⟩ = some (.int .i64 x.lo) ∧ w'.cell? ⟨(adv.add (i * 6)).block, (adv.add (i * 6)).off + 3, none⟩ = some (.int .i64 x.hi) ∧ w'.cell? ⟨(adv.add (i * 6)).block, (adv.add (i * 6)).off + 4, none⟩ = some (.int .i64 x.pn) ∧ w'.cell? ⟨(adv.add (i * 6)).block, (adv.add (i * 6)).off + 5, none⟩ = some (.int .i64 x.pid))
                  (first | exact ⟨cG0, cG1, cl, ch, cn, cp⟩ | exact ⟨d0, d1, el, eh, en, ep⟩)
                  (first
                    | (go_at_call 120
                       refine (top_calls _ _ _ _ g.ids HIQ.out).mono ?_
                       rintro e w3 ⟨rfl, hb3⟩
                       rw [HTP.out]
                       have HB3 := Lib.hid (HBD.out.trans (hb3.mono HBD.out.size))
                       have hbg3 := blk_below HGD.out hb3
                       have HBG3 := Lib.hid hbg3
                       have d0 := blk_cell (j := 0) (v := .slice A0 g.ids.length c0) hbg3 rfl
                       have d1 := blk_cell (j := 1) (v := .slice A1 g.ports.length c1) hbg3 rfl
                       obtain ⟨adw, hadw, ek, el, eh, en, ep⟩ := at_var (Kd.C_below HVV.out HB3.out) i hil
                       cases hadw
                       rw [HX2.out hil] at ek el eh en ep
                       clear hb3 hbg3))
                clear q1 q2 q3 q4 cG0 cG1 ck cl ch cn cp
                obtain ⟨ad2, AR2, cR2, hA2, hcell, _, hCr3⟩ := Kd.at_slice (Kd.C_below HC.out HB3.out) v hvc
                cases hA2
                have hcv : c[v] = row := by have := HRW.out; rw [List.getD_eq_getElem?_getD, List.getElem?_eq_getElem hvc] at this; exact this
                rw [hcv] at hcell hCr3
                obtain ⟨ad4, rfl, hcz⟩ := Kd.at_int hCr3 i hir
                rw [HZ2.out hir] at hcz
                obtain ⟨ad5, AP5, cP5, rfl, hcp5, _, _⟩ := Kd.at_slice (HG.out.below HB3.out).ports v hlt
                rw [HP2.out hlt] at hcp5
                clear hCr3 hcv
                have k3 : (v : Int) < (g.ports.length : Int) := by omega
                have k5 : (i : Int) < (row.length : Int) := by omega
                by_cases e2 : x.kind = 2
                · have t2 : (x.kind == 2) = true := by simp [e2]
                  have L2 := Lib.hid e2
                  clear e2
                  have HCO : Hid (cellOK g c vars v i = inB z (0) (1)) := HCELL.out _ _ (by unfold Var.lo'; rw [if_pos L2.out]) (by unfold Var.hi'; rw [if_pos L2.out])
                  go_wp2_with fail
                  refine (in_calls _ _ _ _).mono ?_
                  rintro e w7 ⟨rfl, rfl⟩
                  cases hin : inB z (0) (1) with
                  | false =>
                    have HE := Lib.hid (HBAD.out (HCO.out.trans hin))
                    clear hin
                    go_wp2_with fail
                    go_ret
                    exact ⟨by rw [HE.out]; rfl, HB3.out⟩
                  | true =>
                    have HE := Lib.hid (HNX.out (HCO.out.trans hin))
                    clear hin
                    go_wp2_with fail
                    go_roundw
                    case rel => exact ⟨i + 1, by omega, by go_num, HE.out, HB3.out, HBG3.out⟩
                    case measure => simp [intOf]; omega
                · have t2 : (x.kind == 2) = false := by simp [e2]
                  have L2 := Lib.hid e2
                  clear e2
                  by_cases e3 : x.kind = 3
                  · have t3 : (x.kind == 3) = true := by simp [e3]
                    have L3 := Lib.hid e3
                    clear e3
                    have HCO : Hid (cellOK g c vars v i = inB z (-1) ((pr.length : Int) - 1)) := HCELL.out _ _ (by unfold Var.lo'; rw [if_neg L2.out, if_pos L3.out]) (by unfold Var.hi'; rw [if_neg L2.out, if_pos L3.out])
                    go_wp2_with fail
                    have q5 : IntKind.i64.wrap ((pr.length : Int) - 1) = (pr.length : Int) - 1 := IntWalk.i64_in _ (by omega)
                    have k3 : (v : Int) < (g.ports.length : Int) := by omega
                    have k4 : (0 : Int) ≤ (v : Int) := by omega
                    go_quiet (fail)
                    clear q5
                    go_wp2_with fail
                    refine (in_calls _ _ _ _).mono ?_
                    rintro e w7 ⟨rfl, rfl⟩
                    cases hin : inB z (-1) ((pr.length : Int) - 1) with
                    | false =>
                      have HE := Lib.hid (HBAD.out (HCO.out.trans hin))
                      clear hin
                      go_wp2_with fail
                      go_ret
                      exact ⟨by rw [HE.out]; rfl, below_drewN HB3.out _⟩
                    | true =>
                      have HE := Lib.hid (HNX.out (HCO.out.trans hin))
                      clear hin
                      go_wp2_with fail
                      go_roundw
                      case rel => exact ⟨i + 1, by omega, by go_num, HE.out, below_drewN HB3.out _, HBG3.out⟩
                      case measure => simp [intOf]; omega
                  · have t3 : (x.kind == 3) = false := by simp [e3]
                    have L3 := Lib.hid e3
                    clear e3
                    have HCO : Hid (cellOK g c vars v i = inB z (x.lo) (x.hi + p1 + p2)) := HCELL.out _ _ (by unfold Var.lo'; rw [if_neg L2.out, if_neg L3.out]) (by unfold Var.hi'; rw [if_neg L2.out, if_neg L3.out, hp1, hp2])
                    go_wp2_with fail
                    refine (in_calls _ _ _ _).mono ?_
                    rintro e w7 ⟨rfl, rfl⟩
                    cases hin : inB z (x.lo) (x.hi + p1 + p2) with
                    | false =>
                      have HE := Lib.hid (HBAD.out (HCO.out.trans hin))
                      clear hin
                      go_wp2_with fail
                      go_ret
                      exact ⟨by rw [HE.out]; rfl, HB3.out⟩
                    | true =>
                      have HE := Lib.hid (HNX.out (HCO.out.trans hin))
                      clear hin
                      go_wp2_with fail
                      go_roundw
                      case rel => exact ⟨i + 1, by omega, by go_num, HE.out, HB3.out, HBG3.out⟩
                      case measure => simp [intOf]; omega
              · have HS : Hid (∀ u, u < v + 1 → crowOK g c vars u = true) := fun u hu => by
                  by_cases e : u = v
                  · rw [e]; exact crow_good (by rw [HRW.out]; exact HWID.out) fun i hi => HOK.out i (by omega)
                  · exact HROW.out u (by omega)
                go_wp2_with fail
                go_roundw
                case rel => exact ⟨v + 1, by omega, by go_num, HS.out, HBQ.out, HGQ.out⟩
                case measure => simp [intOf]; omega
          · have t2 : ((row.length : Int) != (vars.length : Int)) = true := by rw [bne_iff_ne]; omega
            have HE : Hid (confB g c vars = false) := conf_bad (.inr (.inr ⟨v, hlt, crow_bad (.inl (by rw [HRW.out]; exact hwid))⟩))
            clear hwid
            go_wp2_with fail
            go_ret
            exact ⟨by rw [HE.out]; rfl, HBZ.out⟩
        · have HE : Hid (confB g c vars = true) := conf_good HV.out HLEN.out fun u hu => HROW.out u (by omega)
          go_wp2_with fail
          go_ret
          exact ⟨by rw [HE.out]; rfl, HBZ.out⟩
    · have t1 : ((c.length : Int) != (g.ports.length : Int)) = true := by rw [bne_iff_ne]; omega
      have HE : Hid (confB g c vars = false) := conf_bad (.inr (.inl hlen))
      clear hlen
      go_enter Try.func83, Try.ntmps83
      go_wp2_with fail
      refine (refvalid_calls _ _ _ _ _ _ hg1).mono ?_
      rintro e w1 ⟨rfl, hb1⟩
      rw [HV.out]
      obtain ⟨_, _, _, hbw⟩ := box2 hb1
      have HB := Lib.hid hbw
      clear hb1 hbw
      go_wp2_with fail
      go_ret
      exact ⟨by rw [HE.out]; rfl, HB.out⟩
end Go.Proofs.Ythapikakneikbaa
/-
  As Bridge, beside the contract of selfstabref23.Config: configurations and variables.
-/
namespace Go.Proofs.YthapikakneikbaaG
open Go.RowKit
def toV (x : S51) : Go.Proofs.Ythapikakneikbaa.Var := ⟨x.f0, x.f1, x.f2, x.f3, x.f4, x.f5⟩
theorem Br.var : Br k51 Go.Proofs.Ythapikakneikbaa.kVar toV := ⟨rfl, fun h => k51_open h⟩
/-- A variable of the programs: its numbers are small. -/
def smallV (x : S51) : Bool := decide ((-1000 ≤ x.f2 ∧ x.f2 ≤ 1000) ∧ (-1000 ≤ x.f3 ∧ x.f3 ≤ 1000) ∧ (0 ≤ x.f4 ∧ x.f4 ≤ 100) ∧ (0 ≤ x.f5 ∧ x.f5 ≤ 100))
theorem smallV_is {x : S51} (h : smallV x = true) : (toV x).Small := by
  have h := of_decide_eq_true h
  exact ⟨h.1, h.2.1, h.2.2.1, h.2.2.2⟩
end Go.Proofs.YthapikakneikbaaG
/-
  Plain laws: a configuration by the references' words (Config) is one by the services' words (shape.Holds).
-/
namespace Go.Proofs.YthapikakneikbaaG
open Go.RowKit
open Go.Proofs.Ythapikakneikbaa (holdsB confB inRange rowOK cellOK crowOK inB topOf noVar)
/-- What a variable's greatest value is for shape.Holds. -/
def mostOf (n : Nat) (top : Int) (x : Go.Proofs.Ythapikakneikbaa.Var) : Int := if x.kind = 2 then 1 else if x.kind = 3 then -1 else x.hi + x.pn * n + x.pid * top
theorem conf_holds {g : Go.Proofs.Ythapikakneikbaa.Graph} {c : Go.Proofs.Ythapikakneikbaa.Conf} {vars : List Go.Proofs.Ythapikakneikbaa.Var} {most : List Int} (hv : g.valid = true) (hm : most = vars.map (mostOf g.ports.length (topOf g.ids)))
    (h : ∀ x ∈ vars, x.kind = 3 ∨ (x.kind = 2 ∨ x.lo = 0) ∧ mostOf g.ports.length (topOf g.ids) x ≠ -1) : confB g c vars = holdsB g c most := by
  subst hm
  unfold confB holdsB
  rw [hv, Bool.true_and]
  by_cases hl : c.length = g.ports.length
  · have e1 : (c.length == g.ports.length) = true := by simp [hl]
    rw [decide_eq_true hl, e1, Bool.true_and, Bool.true_and, hl, Bool.eq_iff_iff, List.all_eq_true, List.all_eq_true]
    refine forall_congr' fun v => forall_congr' fun hv => ?_
    unfold crowOK rowOK
    rw [List.length_map]
    generalize hr : c.getD v [] = r
    by_cases hrl : r.length = vars.length
    · have e2 : (r.length == vars.length) = true := by simp [hrl]
      rw [decide_eq_true hrl, e2, Bool.true_and, Bool.true_and, hrl, List.all_eq_true, List.all_eq_true]
      refine forall_congr' fun i => forall_congr' fun hi => ?_
      rw [List.mem_range] at hi
      have hx := h _ (List.getElem_mem hi)
      unfold cellOK inRange inB
      rw [hr]
      have g1 : vars.getD i noVar = vars[i] := by rw [List.getD_eq_getElem?_getD, List.getElem?_eq_getElem hi]; rfl
      have g2 : (vars.map (mostOf g.ports.length (topOf g.ids))).getD i 0 = mostOf g.ports.length (topOf g.ids) vars[i] := by rw [List.getD_eq_getElem?_getD, List.getElem?_map, List.getElem?_eq_getElem hi]; rfl
      rw [g1, g2]
      generalize vars[i] = x at hx
      unfold Go.Proofs.Ythapikakneikbaa.Var.lo' Go.Proofs.Ythapikakneikbaa.Var.hi'
      unfold mostOf at hx ⊢
      by_cases k2 : x.kind = 2
      · simp [k2]
      · by_cases k3 : x.kind = 3
        · simp only [if_neg k2, if_pos k3, if_true, decide_eq_true_eq]
          omega
        · rcases hx with hx | ⟨hx, hy⟩
          · exact absurd hx k3
          · rcases hx with hx | hx
            · exact absurd hx k2
            · simp only [if_neg k2, if_neg k3] at hy ⊢
              rw [if_neg hy, hx]
    · have e2 : (r.length == vars.length) = false := by simp [hrl]
      rw [decide_eq_false hrl, e2, Bool.false_and, Bool.false_and]
  · have e1 : (c.length == g.ports.length) = false := by simp [hl]
    rw [decide_eq_false hl, e1, Bool.false_and, Bool.false_and]
/-- What shape.Holds says: the number of states, and each state's length. -/
theorem holds_rows {g : Go.Proofs.Ythapikakneikbaa.Graph} {c : Go.Proofs.Ythapikakneikbaa.Conf} {most : List Int} (h : holdsB g c most = true) : c.length = g.ports.length ∧ ∀ v, v < c.length → (c.getD v []).length = most.length ∧ ∀ x, x < most.length → inRange (g.ports.getD v []).length (most.getD x 0) ((c.getD v []).getD x 0) = true := by
  unfold holdsB at h
  rw [Bool.and_eq_true, beq_iff_eq, List.all_eq_true] at h
  refine ⟨h.1, fun v hv => ?_⟩
  have h2 := h.2 v (List.mem_range.2 hv)
  unfold rowOK at h2
  rw [Bool.and_eq_true, beq_iff_eq, List.all_eq_true] at h2
  exact ⟨h2.1, fun x hx => h2.2 x (List.mem_range.2 (by omega))⟩
theorem all_rows {c : List (List Int)} {m : Nat} (h : ∀ v, v < c.length → (c.getD v []).length = m) {x : Nat} (hx : x < m) : (c.all fun r => decide (x < r.length)) = true := by
  rw [List.all_eq_true]
  intro r hr
  obtain ⟨i, hi, rfl⟩ := List.mem_iff_getElem.1 hr
  have := h i hi
  rw [List.getD_eq_getElem?_getD, List.getElem?_eq_getElem hi] at this
  simp only [Option.getD_some] at this
  simp [this, hx]
end Go.Proofs.YthapikakneikbaaG
namespace Go.Proofs.YthapikakneikbaaG
open Go.RowKit Go.Proofs.YthapikakneikbaaW.PrintWords Go.Proofs.YthapikakneikbaaW.PrintLast Go.Proofs.YthapikakneikbaaW.PrintMore
attribute [local go_sem] max2_int min2_int max_two min_two max_three min_three max_four min_four   -- for this text's walks alone
set_option linter.unusedVariables false
set_option linter.unusedSimpArgs false
mutual
def selfstabref23_Tree.l0 : Nat → List (List Int) → Int → Int → List Int → Int → List Int → List (List (S60)) → Option (Bool)
 | 0, _, _, _, _, _, _, _ => none
 | k + 1, x1, x3, x4, x11, x12, x582000, x582001 => if x12 < (x582001.length : Int) then (if 0 ≤ x12 then (selfstabref23_Tree.l1 k x1 x3 x4 x11 x12 (-1) (wrap64 (((rd_L2 x582001 x12).length : Int) - 1)) x582000 x582001) else (none)) else (some true)
def selfstabref23_Tree.l1 : Nat → List (List Int) → Int → Int → List Int → Int → Int → Int → List Int → List (List (S60)) → Option (Bool)
 | 0, _, _, _, _, _, _, _, _, _ => none
 | k + 1, x1, x3, x4, x11, x12, x13, x14, x582000, x582001 => if x14 ≥ 0 then (if 0 ≤ x12 then (if x12 < (x582001.length : Int) then (if 0 ≤ x14 then (if x14 < ((rd_L2 x582001 x12).length : Int) then (if 0 ≤ ((rd_T60 (rd_L2 x582001 x12) x14).f0) then (if ((rd_T60 (rd_L2 x582001 x12) x14).f0) < (x11.length : Int) then (if x12 < (x11.length : Int) then (if (rd x11 ((rd_T60 (rd_L2 x582001 x12) x14).f0)) = (wrap64 ((rd x11 x12) - 1)) then (selfstabref23_Tree.l1 k x1 x3 x4 x11 x12 x14 (wrap64 (x14 - 1)) x582000 x582001) else (selfstabref23_Tree.l1 k x1 x3 x4 x11 x12 x13 (wrap64 (x14 - 1)) x582000 x582001)) else (none)) else (none)) else (none)) else (none)) else (none)) else (none)) else (none)) else (if 0 ≤ x12 then (if x12 < (x1.length : Int) then (if 0 ≤ x3 then (if x3 < ((rd_L3 x1 x12).length : Int) then (if x12 < (x11.length : Int) then (if (rd (rd_L3 x1 x12) x3) = (rd x11 x12) then (if 0 ≤ x4 then (if x4 < ((rd_L3 x1 x12).length : Int) then (if (rd (rd_L3 x1 x12) x4) = x13 then (selfstabref23_Tree.l0 k x1 x3 x4 x11 (wrap64 (x12 + 1)) x582000 x582001) else (some false)) else (none)) else (none)) else (some false)) else (none)) else (none)) else (none)) else (none)) else (none))
end
def selfstabref23_Tree.f (k : Nat) (l0_0 : List Int) (l0_1 : List (List (S60))) (l1 : List (List Int)) (a2 : Int) (a3 : Int) (a4 : Int) : Option (Bool) := (selfstabref01_Distances.f k l0_0 l0_1 a2).bind fun t582 => (selfstabref23_Tree.l0 k l1 a3 a4 t582 0 l0_0 l0_1)
theorem selfstabref23_Tree.mono_l : ∀ k, (∀ y0 y1 y2 y3 y4 y5 y6, LeO (selfstabref23_Tree.l0 k y0 y1 y2 y3 y4 y5 y6) (selfstabref23_Tree.l0 (k + 1) y0 y1 y2 y3 y4 y5 y6)) ∧ (∀ y0 y1 y2 y3 y4 y5 y6 y7 y8, LeO (selfstabref23_Tree.l1 k y0 y1 y2 y3 y4 y5 y6 y7 y8) (selfstabref23_Tree.l1 (k + 1) y0 y1 y2 y3 y4 y5 y6 y7 y8))
 | 0 => ⟨fun _ _ _ _ _ _ _ r h => by simp [selfstabref23_Tree.l0] at h, fun _ _ _ _ _ _ _ _ _ r h => by simp [selfstabref23_Tree.l1] at h⟩
 | k + 1 => by
  obtain ⟨ih0, ih1⟩ := selfstabref23_Tree.mono_l k
  refine ⟨?_, ?_⟩
  ·
   intro y0 y1 y2 y3 y4 y5 y6
   unfold selfstabref23_Tree.l0
   repeat' first
   | (with_reducible exact ih0 _ _ _ _ _ _ _)
   | (with_reducible exact ih1 _ _ _ _ _ _ _ _ _)
   | (with_reducible exact selfstabref01_Distances.mono _ _ _ _)
   | (with_reducible exact LeO.refl _)
   | (with_reducible exact LeO.none _)
   | (with_reducible refine LeO.ite ?_ ?_)
   | (with_reducible refine LeO.bind ?_ (fun _ => ?_))
   | exact ih0 _ _ _ _ _ _ _
   | exact ih1 _ _ _ _ _ _ _ _ _
   | exact selfstabref01_Distances.mono _ _ _ _
   | exact LeO.none _
   | refine LeO.ite ?_ ?_
   | refine LeO.bind ?_ (fun _ => ?_)
  ·
   intro y0 y1 y2 y3 y4 y5 y6 y7 y8
   unfold selfstabref23_Tree.l1
   repeat' first
   | (with_reducible exact ih0 _ _ _ _ _ _ _)
   | (with_reducible exact ih1 _ _ _ _ _ _ _ _ _)
   | (with_reducible exact selfstabref01_Distances.mono _ _ _ _)
   | (with_reducible exact LeO.refl _)
   | (with_reducible exact LeO.none _)
   | (with_reducible refine LeO.ite ?_ ?_)
   | (with_reducible refine LeO.bind ?_ (fun _ => ?_))
   | exact ih0 _ _ _ _ _ _ _
   | exact ih1 _ _ _ _ _ _ _ _ _
   | exact selfstabref01_Distances.mono _ _ _ _
   | exact LeO.none _
   | refine LeO.ite ?_ ?_
   | refine LeO.bind ?_ (fun _ => ?_)
theorem selfstabref23_Tree.mono : ∀ a0 a1 a2 a3 a4 a5 k, LeO (selfstabref23_Tree.f k a0 a1 a2 a3 a4 a5) (selfstabref23_Tree.f (k + 1) a0 a1 a2 a3 a4 a5) := by
 intro a0 a1 a2 a3 a4 a5 k
 obtain ⟨ih0, ih1⟩ := selfstabref23_Tree.mono_l k
 unfold selfstabref23_Tree.f
 repeat' first
   | (with_reducible exact ih0 _ _ _ _ _ _ _)
   | (with_reducible exact ih1 _ _ _ _ _ _ _ _ _)
   | (with_reducible exact selfstabref01_Distances.mono _ _ _ _)
   | (with_reducible exact LeO.refl _)
   | (with_reducible exact LeO.none _)
   | (with_reducible refine LeO.ite ?_ ?_)
   | (with_reducible refine LeO.bind ?_ (fun _ => ?_))
   | exact ih0 _ _ _ _ _ _ _
   | exact ih1 _ _ _ _ _ _ _ _ _
   | exact selfstabref01_Distances.mono _ _ _ _
   | exact LeO.none _
   | refine LeO.ite ?_ ?_
   | refine LeO.bind ?_ (fun _ => ?_)
set_option maxHeartbeats 8000000 in
set_option maxRecDepth 100000 in
theorem selfstabref23_Tree.calls (k : Nat) (A0_0 : Option Addr) (c0_0 : Nat) (l0_0 : List Int) (A0_1 : Option Addr) (c0_1 : Nat) (l0_1 : List (List (S60))) (A1 : Option Addr) (c1 : Nat) (l1 : List (List Int)) (a2 : Int) (a3 : Int) (a4 : Int) (r : Bool) (w : World) (hr0_0 : Kd.C (Kd.int .i64) w A0_0 l0_0.length l0_0) (hc0_0 : l0_0.length ≤ c0_0) (hr0_1 : Kd.C (Kd.slice 60 k60) w A0_1 l0_1.length l0_1) (hc0_1 : l0_1.length ≤ c0_1) (hr1 : Kd.C (Kd.slice 3 (Kd.int .i64)) w A1 l1.length l1) (hc1 : l1.length ≤ c1) (h : selfstabref23_Tree.f k l0_0 l0_1 l1 a2 a3 a4 = some r) :
  Calls Try.prog 93 #[.agg #[.slice A0_0 l0_0.length c0_0, .slice A0_1 l0_1.length c0_1], .slice A1 l1.length c1, .int .i64 a2, .int .i64 a3, .int .i64 a4] w fun e w' => e = .returned (.bool r) ∧ Below w.heap.size w w' := by
 have hu27 := Try.underlying27
 have HR0_0 := Aside0.mk hr0_0
 have HC0_0 := Aside0.mk hc0_0
 clear hr0_0 hc0_0
 have HR0_1 := Aside0.mk hr0_1
 have HC0_1 := Aside0.mk hc0_1
 clear hr0_1 hc0_1
 have HR1 := Aside0.mk hr1
 have HC1 := Aside0.mk hc1
 clear hr1 hc1
 have HB := Aside0.mk (Below.refl w.heap.size w)
 have H : ((selfstabref01_Distances.f k l0_0 l0_1 a2).bind fun t582 => (selfstabref23_Tree.l0 k l1 a3 a4 t582 0 l0_0 l0_1)) = some r := h
 clear h
 replace H := Option.bind_eq_some_iff.mp H
 obtain ⟨t582, A60, H⟩ := H
 replace H : (selfstabref23_Tree.l0 k l1 a3 a4 t582 0 l0_0 l0_1) = some r := H
 have A6 := Aside0.mk A60
 clear A60
 have H' := Aside0.mk H
 clear H
 go_enter Try.func93, Try.ntmps93
 go_wp2_with (first | ((with_reducible refine gate_dst (N := 5) rfl ?_); refine box_event ?hg (N := 5) ?hd (cs := #[.slice A0_0 l0_0.length c0_0, .slice A0_1 l0_1.length c0_1]) (t := 27) ?hr ?_; (case hd => rfl); (case hg => rfl); (case hr => first | (go_simp; done) | (go_simp; rfl)); intro gb581 hg w7 hbox hb; have n0_ := Aside0.mk (below_step (by repeat (first | (with_reducible first | exact HB.out | apply below_alloc | apply pw_below_drewN | apply below_drew1) | exact HB.out)) hb); have n1_ := Aside0.mk (hbox); have n2_ := Aside0.mk ((by rw [hg]; exact (below_size (by repeat (first | (with_reducible first | exact HB.out | apply below_alloc | apply pw_below_drewN | apply below_drew1) | exact HB.out))) : w.heap.size ≤ gb581)); have n3_ := Aside0.mk ((by rw [hg]; exact (below_size (by repeat (first | (with_reducible first | exact HB.out | apply below_alloc | apply pw_below_drewN | apply below_drew1) | exact HB.out))) : w.heap.size ≤ gb581)); clear HB; have HB := n0_; have BK581 := n1_; have GW581 := n2_; have GE581 := n3_; clear n0_ n1_ n2_ n3_; clear hb hbox hg; have hcz8_0 : w7.cell? ⟨gb581, 0, none⟩ = some (.slice A0_0 l0_0.length c0_0) := (blk_cell BK581.out 0).trans rfl; have hcz8_1 : w7.cell? ⟨gb581, 1, none⟩ = some (.slice A0_1 l0_1.length c0_1) := (blk_cell BK581.out 1).trans rfl; have hfz8_0 := blk_frozen BK581.out 0; have hfz8_1 := blk_frozen BK581.out 1) | (go_at_call 123; (with_reducible refine (selfstabref01_Distances.calls k _ _ l0_0 _ _ l0_1 a2 t582 _ ?side1 ?side2 ?side3 ?side4 A6.out).mono ?_); (case side1 => repeat (first | exact (Kd.C_below HR0_0.out HB.out) | (with_reducible refine Kd.C_alloc ?_ _) | (with_reducible refine Kd.C_drewN ?_ _) | (with_reducible refine Kd.C_drew ?_))); (case side2 => exact HC0_0.out); (case side3 => repeat (first | exact (Kd.C_below HR0_1.out HB.out) | (with_reducible refine Kd.C_alloc ?_ _) | (with_reducible refine Kd.C_drewN ?_ _) | (with_reducible refine Kd.C_drew ?_))); (case side4 => exact HC0_1.out); rintro e w9 ⟨v583, rfl, ho0, hb⟩; have n0_ := Aside0.mk (Kd.R_lower ho0 (below_size (by repeat (first | (with_reducible first | exact HB.out | apply below_alloc | apply pw_below_drewN | apply below_drew1 | refine below_set ?_ GE581.out) | exact HB.out)))); have n1_ := Aside0.mk (blk_below (g := gb581) (o := .cells #[.slice A0_0 l0_0.length c0_0, .slice A0_1 l0_1.length c0_1] 27 (0, 0)) (by (with_reducible repeat (first | refine blk_drewN ?_ _ | refine blk_drew ?_ | refine blk_alloc ?_ _)); exact BK581.out) hb); have n2_ := Aside0.mk (below_step (by repeat (first | (with_reducible first | exact HB.out | apply below_alloc | apply pw_below_drewN | apply below_drew1 | refine below_set ?_ GE581.out) | exact HB.out)) hb); clear BK581; clear HB; have HO584 := n0_; have BK581 := n1_; have HB := n2_; clear n0_ n1_ n2_; (try clear hb); (try clear hb2); (try clear hk); (try clear hi); (try clear ho0)))
 repeat (go_quiet (first | ((with_reducible refine gate_dst (N := 5) rfl ?_); refine box_event ?hg (N := 5) ?hd (cs := #[.slice A0_0 l0_0.length c0_0, .slice A0_1 l0_1.length c0_1]) (t := 27) ?hr ?_; (case hd => rfl); (case hg => rfl); (case hr => first | (go_simp; done) | (go_simp; rfl)); intro gb581 hg w7 hbox hb; have n0_ := Aside0.mk (below_step (by repeat (first | (with_reducible first | exact HB.out | apply below_alloc | apply pw_below_drewN | apply below_drew1) | exact HB.out)) hb); have n1_ := Aside0.mk (hbox); have n2_ := Aside0.mk ((by rw [hg]; exact (below_size (by repeat (first | (with_reducible first | exact HB.out | apply below_alloc | apply pw_below_drewN | apply below_drew1) | exact HB.out))) : w.heap.size ≤ gb581)); have n3_ := Aside0.mk ((by rw [hg]; exact (below_size (by repeat (first | (with_reducible first | exact HB.out | apply below_alloc | apply pw_below_drewN | apply below_drew1) | exact HB.out))) : w.heap.size ≤ gb581)); clear HB; have HB := n0_; have BK581 := n1_; have GW581 := n2_; have GE581 := n3_; clear n0_ n1_ n2_ n3_; clear hb hbox hg; have hcz8_0 : w7.cell? ⟨gb581, 0, none⟩ = some (.slice A0_0 l0_0.length c0_0) := (blk_cell BK581.out 0).trans rfl; have hcz8_1 : w7.cell? ⟨gb581, 1, none⟩ = some (.slice A0_1 l0_1.length c0_1) := (blk_cell BK581.out 1).trans rfl; have hfz8_0 := blk_frozen BK581.out 0; have hfz8_1 := blk_frozen BK581.out 1) | (go_at_call 123; (with_reducible refine (selfstabref01_Distances.calls k _ _ l0_0 _ _ l0_1 a2 t582 _ ?side1 ?side2 ?side3 ?side4 A6.out).mono ?_); (case side1 => repeat (first | exact (Kd.C_below HR0_0.out HB.out) | (with_reducible refine Kd.C_alloc ?_ _) | (with_reducible refine Kd.C_drewN ?_ _) | (with_reducible refine Kd.C_drew ?_))); (case side2 => exact HC0_0.out); (case side3 => repeat (first | exact (Kd.C_below HR0_1.out HB.out) | (with_reducible refine Kd.C_alloc ?_ _) | (with_reducible refine Kd.C_drewN ?_ _) | (with_reducible refine Kd.C_drew ?_))); (case side4 => exact HC0_1.out); rintro e w9 ⟨v583, rfl, ho0, hb⟩; have n0_ := Aside0.mk (Kd.R_lower ho0 (below_size (by repeat (first | (with_reducible first | exact HB.out | apply below_alloc | apply pw_below_drewN | apply below_drew1 | refine below_set ?_ GE581.out) | exact HB.out)))); have n1_ := Aside0.mk (blk_below (g := gb581) (o := .cells #[.slice A0_0 l0_0.length c0_0, .slice A0_1 l0_1.length c0_1] 27 (0, 0)) (by (with_reducible repeat (first | refine blk_drewN ?_ _ | refine blk_drew ?_ | refine blk_alloc ?_ _)); exact BK581.out) hb); have n2_ := Aside0.mk (below_step (by repeat (first | (with_reducible first | exact HB.out | apply below_alloc | apply pw_below_drewN | apply below_drew1 | refine below_set ?_ GE581.out) | exact HB.out)) hb); clear BK581; clear HB; have HO584 := n0_; have BK581 := n1_; have HB := n2_; clear n0_ n1_ n2_; (try clear hb); (try clear hb2); (try clear hk); (try clear hi); (try clear ho0))); try go_wp2_with (first | ((with_reducible refine gate_dst (N := 5) rfl ?_); refine box_event ?hg (N := 5) ?hd (cs := #[.slice A0_0 l0_0.length c0_0, .slice A0_1 l0_1.length c0_1]) (t := 27) ?hr ?_; (case hd => rfl); (case hg => rfl); (case hr => first | (go_simp; done) | (go_simp; rfl)); intro gb581 hg w7 hbox hb; have n0_ := Aside0.mk (below_step (by repeat (first | (with_reducible first | exact HB.out | apply below_alloc | apply pw_below_drewN | apply below_drew1) | exact HB.out)) hb); have n1_ := Aside0.mk (hbox); have n2_ := Aside0.mk ((by rw [hg]; exact (below_size (by repeat (first | (with_reducible first | exact HB.out | apply below_alloc | apply pw_below_drewN | apply below_drew1) | exact HB.out))) : w.heap.size ≤ gb581)); have n3_ := Aside0.mk ((by rw [hg]; exact (below_size (by repeat (first | (with_reducible first | exact HB.out | apply below_alloc | apply pw_below_drewN | apply below_drew1) | exact HB.out))) : w.heap.size ≤ gb581)); clear HB; have HB := n0_; have BK581 := n1_; have GW581 := n2_; have GE581 := n3_; clear n0_ n1_ n2_ n3_; clear hb hbox hg; have hcz8_0 : w7.cell? ⟨gb581, 0, none⟩ = some (.slice A0_0 l0_0.length c0_0) := (blk_cell BK581.out 0).trans rfl; have hcz8_1 : w7.cell? ⟨gb581, 1, none⟩ = some (.slice A0_1 l0_1.length c0_1) := (blk_cell BK581.out 1).trans rfl; have hfz8_0 := blk_frozen BK581.out 0; have hfz8_1 := blk_frozen BK581.out 1) | (go_at_call 123; (with_reducible refine (selfstabref01_Distances.calls k _ _ l0_0 _ _ l0_1 a2 t582 _ ?side1 ?side2 ?side3 ?side4 A6.out).mono ?_); (case side1 => repeat (first | exact (Kd.C_below HR0_0.out HB.out) | (with_reducible refine Kd.C_alloc ?_ _) | (with_reducible refine Kd.C_drewN ?_ _) | (with_reducible refine Kd.C_drew ?_))); (case side2 => exact HC0_0.out); (case side3 => repeat (first | exact (Kd.C_below HR0_1.out HB.out) | (with_reducible refine Kd.C_alloc ?_ _) | (with_reducible refine Kd.C_drewN ?_ _) | (with_reducible refine Kd.C_drew ?_))); (case side4 => exact HC0_1.out); rintro e w9 ⟨v583, rfl, ho0, hb⟩; have n0_ := Aside0.mk (Kd.R_lower ho0 (below_size (by repeat (first | (with_reducible first | exact HB.out | apply below_alloc | apply pw_below_drewN | apply below_drew1 | refine below_set ?_ GE581.out) | exact HB.out)))); have n1_ := Aside0.mk (blk_below (g := gb581) (o := .cells #[.slice A0_0 l0_0.length c0_0, .slice A0_1 l0_1.length c0_1] 27 (0, 0)) (by (with_reducible repeat (first | refine blk_drewN ?_ _ | refine blk_drew ?_ | refine blk_alloc ?_ _)); exact BK581.out) hb); have n2_ := Aside0.mk (below_step (by repeat (first | (with_reducible first | exact HB.out | apply below_alloc | apply pw_below_drewN | apply below_drew1 | refine below_set ?_ GE581.out) | exact HB.out)) hb); clear BK581; clear HB; have HO584 := n0_; have BK581 := n1_; have HB := n2_; clear n0_ n1_ n2_; (try clear hb); (try clear hb2); (try clear hk); (try clear hi); (try clear ho0))))
 go_loopg [12] k (fun kq v12 w' => ∃ (x12_1 : Int), v12 = .int .i64 x12_1 ∧ Aside0 (selfstabref23_Tree.l0 kq l1 a3 a4 t582 x12_1 l0_0 l0_1 = some r) ∧ Aside0 (kq ≤ k) ∧ Aside0 (Kd.R (Kd.int .i64) 3 w' w.heap.size (fun _ => True) v583 t582) ∧ Aside0 (w'.heap[gb581]? = some (.cells #[(.slice A0_0 l0_0.length c0_0), (.slice A0_1 l0_1.length c0_1)] 27 (0, 0))) ∧ Aside0 (Below w.heap.size w w'))
 case atStart => exact ⟨(0), (by first | rfl | (simp; done) | (simp [*]; done)), H', ⟨Nat.le_refl _⟩, ⟨by (with_reducible repeat (first | apply Kd.R_alloc | apply Kd.R_drewN | apply Kd.R_drew)); exact HO584.out⟩, ⟨by (with_reducible repeat (first | refine blk_drewN ?_ _ | refine blk_drew ?_ | refine blk_alloc ?_ _)); exact BK581.out⟩, ⟨by repeat (first | (with_reducible first | exact HB.out | apply below_alloc | apply pw_below_drewN | apply below_drew1 | refine below_set ?_ GE581.out) | exact HB.out)⟩⟩
 case round =>
  clear H'
  try clear c1
  try clear p2
  try clear c9
  try clear hcz8_0
  try clear hcz8_1
  try clear hfz8_0
  try clear hfz8_1
  obtain ⟨x12_1, rfl, HA, HK1, HO_11, BK581, HB⟩ := hrel
  cases gk with
  | zero => exact absurd HA.out (by simp [selfstabref23_Tree.l0])
  | succ k1 =>
   have H := HA.out
   clear HA
   simp only [selfstabref23_Tree.l0] at H
   by_cases c10 : x12_1 < (l0_1.length : Int)
   ·
    rw [if_pos c10] at H
    have c10b0 : decide (x12_1 < (l0_1.length : Int)) = true := decide_eq_true c10
    clear c10
    by_cases c11 : 0 ≤ x12_1
    ·
     rw [if_pos c11] at H
     have c11b0 : decide (0 ≤ x12_1) = true := decide_eq_true c11
     clear c11
     have H' := Aside0.mk H
     clear H
     have hcz12_0 : wr.cell? ⟨gb581, 0, none⟩ = some (.slice A0_0 l0_0.length c0_0) := (blk_cell BK581.out 0).trans rfl
     have hcz12_1 : wr.cell? ⟨gb581, 1, none⟩ = some (.slice A0_1 l0_1.length c0_1) := (blk_cell BK581.out 1).trans rfl
     have hfz12_0 := blk_frozen BK581.out 0
     have hfz12_1 := blk_frozen BK581.out 1
     have p585 : 0 ≤ (x12_1 : Int) := of_decide_eq_true (by first | (with_reducible assumption) | assumption)
     have q585 : x12_1 < (l0_1.length : Int) := of_decide_eq_true (by first | (with_reducible assumption) | assumption)
     obtain ⟨ad585, A585_0, c585_0, e585, hx585_0, hl585_0, hi585_0⟩ := at_L2 HR0_1.out x12_1 p585 q585
     cases e585
     replace hx585_0 := (HB.out.cell (World.block_lt_of_cell? w _ hx585_0)).trans hx585_0
     have HR585_0 := Aside0.mk hi585_0
     have HC585_0 := Aside0.mk hl585_0
     clear hi585_0 hl585_0
     replace p585 := eq_true p585
     replace q585 := eq_true q585
     go_wp2
     repeat (go_quiet (fail); try go_wp2)
     go_loopg [13, 14] k1 (fun kq v13 v14 w' => ∃ (x13_2 : Int) (x14_2 : Int), v13 = .int .i64 x13_2 ∧ v14 = .int .i64 x14_2 ∧ Aside0 (selfstabref23_Tree.l1 kq l1 a3 a4 t582 x12_1 x13_2 x14_2 l0_0 l0_1 = some r) ∧ Aside0 (kq ≤ k1) ∧ Aside0 (Kd.R (Kd.int .i64) 3 w' w.heap.size (fun _ => True) v583 t582) ∧ Aside0 (w'.heap[gb581]? = some (.cells #[(.slice A0_0 l0_0.length c0_0), (.slice (some ad585) l0_1.length c0_1)] 27 (0, 0))) ∧ Aside0 (Below w.heap.size w w'))
     case atStart => exact ⟨((-1)), (wrap64 (((rd_L2 l0_1 x12_1).length : Int) - 1)), (by first | rfl | (simp; done) | (simp [*]; done)), (by first | rfl | (simp; done) | (simp [*]; done)), H', ⟨Nat.le_refl _⟩, ⟨by (with_reducible repeat (first | apply Kd.R_alloc | apply Kd.R_drewN | apply Kd.R_drew)); exact HO_11.out⟩, ⟨by (with_reducible repeat (first | refine blk_drewN ?_ _ | refine blk_drew ?_ | refine blk_alloc ?_ _)); exact BK581.out⟩, ⟨by repeat (first | (with_reducible first | exact HB.out | apply below_alloc | apply pw_below_drewN | apply below_drew1 | refine below_set ?_ GE581.out) | exact HB.out)⟩⟩
     case round =>
      clear H'
      try clear c1
      try clear p2
      try clear c5
      try clear p5
      try clear q5
      try clear hx5
      try clear p6
      try clear c9
      try clear c10
      try clear c10b0
      try clear c11
      try clear c11b0
      try clear hcz12_0
      try clear hcz12_1
      try clear hcz8_0
      try clear hcz8_1
      try clear hfz12_0
      try clear hfz12_1
      try clear hfz8_0
      try clear hfz8_1
      try clear hx585_0
      try clear p2
      try clear p585
      try clear q585
      obtain ⟨x13_2, x14_2, rfl, rfl, HA, HK2, HO_11, BK581, HB⟩ := hrel
      cases gk with
      | zero => exact absurd HA.out (by simp [selfstabref23_Tree.l1])
      | succ k2 =>
       have H := HA.out
       clear HA
       simp only [selfstabref23_Tree.l1] at H
       by_cases c13 : x14_2 ≥ 0
       ·
        rw [if_pos c13] at H
        have c13b0 : decide (0 ≤ x14_2) = true := decide_eq_true c13
        clear c13
        by_cases c14 : 0 ≤ x12_1
        ·
         rw [if_pos c14] at H
         have c14b0 : decide (0 ≤ x12_1) = true := decide_eq_true c14
         clear c14
         by_cases c15 : x12_1 < (l0_1.length : Int)
         ·
          rw [if_pos c15] at H
          have c15b0 : decide (x12_1 < (l0_1.length : Int)) = true := decide_eq_true c15
          clear c15
          by_cases c16 : 0 ≤ x14_2
          ·
           rw [if_pos c16] at H
           have c16b0 : decide (0 ≤ x14_2) = true := decide_eq_true c16
           clear c16
           by_cases c17 : x14_2 < ((rd_L2 l0_1 x12_1).length : Int)
           ·
            rw [if_pos c17] at H
            have c17b0 : decide (x14_2 < ((rd_L2 l0_1 x12_1).length : Int)) = true := decide_eq_true c17
            clear c17
            by_cases c18 : 0 ≤ ((rd_T60 (rd_L2 l0_1 x12_1) x14_2).f0)
            ·
             rw [if_pos c18] at H
             have c18b0 : decide (0 ≤ ((rd_T60 (rd_L2 l0_1 x12_1) x14_2).f0)) = true := decide_eq_true c18
             clear c18
             by_cases c19 : ((rd_T60 (rd_L2 l0_1 x12_1) x14_2).f0) < (t582.length : Int)
             ·
              rw [if_pos c19] at H
              have c19b0 : decide (((rd_T60 (rd_L2 l0_1 x12_1) x14_2).f0) < (t582.length : Int)) = true := decide_eq_true c19
              clear c19
              by_cases c20 : x12_1 < (t582.length : Int)
              ·
               rw [if_pos c20] at H
               have c20b0 : decide (x12_1 < (t582.length : Int)) = true := decide_eq_true c20
               clear c20
               by_cases c21 : (rd t582 ((rd_T60 (rd_L2 l0_1 x12_1) x14_2).f0)) = (wrap64 ((rd t582 x12_1) - 1))
               ·
                rw [if_pos c21] at H
                have c21b0 : ((rd t582 ((rd_T60 (rd_L2 l0_1 x12_1) x14_2).f0)) == (wrap64 ((rd t582 x12_1) - 1))) = true := beq_iff_eq.mpr c21
                have c21b1 : ((rd t582 ((rd_T60 (rd_L2 l0_1 x12_1) x14_2).f0)) != (wrap64 ((rd t582 x12_1) - 1))) = false := bne_eq_false_iff_eq.mpr c21
                clear c21
                have H' := Aside0.mk H
                clear H
                have hcz22_0 : wr.cell? ⟨gb581, 0, none⟩ = some (.slice A0_0 l0_0.length c0_0) := (blk_cell BK581.out 0).trans rfl
                have hcz22_1 : wr.cell? ⟨gb581, 1, none⟩ = some (.slice (some ad585) l0_1.length c0_1) := (blk_cell BK581.out 1).trans rfl
                have hfz22_0 := blk_frozen BK581.out 0
                have hfz22_1 := blk_frozen BK581.out 1
                have p586 : 0 ≤ (x12_1 : Int) := of_decide_eq_true (by first | (with_reducible assumption) | assumption)
                have q586 : x12_1 < (l0_1.length : Int) := of_decide_eq_true (by first | (with_reducible assumption) | assumption)
                obtain ⟨ad586, A586_0, c586_0, e586, hx586_0, hl586_0, hi586_0⟩ := at_L2 HR0_1.out x12_1 p586 q586
                obtain rfl : ad585 = ad586 := (by injection e586)
                replace hx586_0 := (HB.out.cell (World.block_lt_of_cell? w _ hx586_0)).trans hx586_0
                have HR586_0 := Aside0.mk hi586_0
                have HC586_0 := Aside0.mk hl586_0
                clear hi586_0 hl586_0
                replace p586 := eq_true p586
                replace q586 := eq_true q586
                have p587 : 0 ≤ (x14_2 : Int) := of_decide_eq_true (by first | (with_reducible assumption) | assumption)
                have q587 : x14_2 < ((rd_L2 l0_1 x12_1).length : Int) := of_decide_eq_true (by first | (with_reducible assumption) | assumption)
                obtain ⟨ad587, e587, hx587_0, hx587_1⟩ := at_T60 HR586_0.out x14_2 p587 q587
                cases e587
                replace hx587_0 := (HB.out.cell (World.block_lt_of_cell? w _ hx587_0)).trans hx587_0
                replace hx587_1 := (HB.out.cell (World.block_lt_of_cell? w _ hx587_1)).trans hx587_1
                replace p587 := eq_true p587
                replace q587 := eq_true q587
                obtain ⟨Ao23, co23, eo23⟩ := Kd.R_slice HO_11.out
                subst eo23
                have p588 : 0 ≤ (((rd_T60 (rd_L2 l0_1 x12_1) x14_2).f0) : Int) := of_decide_eq_true (by first | (with_reducible assumption) | assumption)
                have q588 : ((rd_T60 (rd_L2 l0_1 x12_1) x14_2).f0) < (t582.length : Int) := of_decide_eq_true (by first | (with_reducible assumption) | assumption)
                obtain ⟨ad588, e588, hx588_0⟩ := Kd.at_int (Kd.R_reads' HO_11.out).2.2 ((rd_T60 (rd_L2 l0_1 x12_1) x14_2).f0) p588 q588
                cases e588
                replace p588 := eq_true p588
                replace q588 := eq_true q588
                have p589 : 0 ≤ (x12_1 : Int) := of_decide_eq_true (by first | (with_reducible assumption) | assumption)
                have q589 : x12_1 < (t582.length : Int) := of_decide_eq_true (by first | (with_reducible assumption) | assumption)
                obtain ⟨ad589, e589, hx589_0⟩ := Kd.at_int (Kd.R_reads' HO_11.out).2.2 x12_1 p589 q589
                obtain rfl : ad588 = ad589 := (by injection e589)
                replace p589 := eq_true p589
                replace q589 := eq_true q589
                go_wp2
                repeat (go_quiet (fail); try go_wp2)
                go_roundg k2
                case measure => have := HK1.out; have := HK2.out; omega
                case rel => exact ⟨(x14_2), (wrap64 (x14_2 - 1)), (by first | rfl | (simp; done) | (simp [*]; done)), (by first | rfl | (simp; done) | (simp [*]; done)), H', ⟨by have := HK1.out; have := HK2.out; omega⟩, ⟨by (with_reducible repeat (first | apply Kd.R_alloc | apply Kd.R_drewN | apply Kd.R_drew)); exact HO_11.out⟩, ⟨by (with_reducible repeat (first | refine blk_drewN ?_ _ | refine blk_drew ?_ | refine blk_alloc ?_ _)); exact BK581.out⟩, ⟨by repeat (first | (with_reducible first | exact HB.out | apply below_alloc | apply pw_below_drewN | apply below_drew1 | refine below_set ?_ GE581.out) | exact HB.out)⟩⟩
               ·
                rw [if_neg c21] at H
                have c21b0 : ((rd t582 ((rd_T60 (rd_L2 l0_1 x12_1) x14_2).f0)) == (wrap64 ((rd t582 x12_1) - 1))) = false := beq_eq_false_iff_ne.mpr c21
                have c21b1 : ((rd t582 ((rd_T60 (rd_L2 l0_1 x12_1) x14_2).f0)) != (wrap64 ((rd t582 x12_1) - 1))) = true := bne_iff_ne.mpr c21
                have H' := Aside0.mk H
                clear H
                have hcz24_0 : wr.cell? ⟨gb581, 0, none⟩ = some (.slice A0_0 l0_0.length c0_0) := (blk_cell BK581.out 0).trans rfl
                have hcz24_1 : wr.cell? ⟨gb581, 1, none⟩ = some (.slice (some ad585) l0_1.length c0_1) := (blk_cell BK581.out 1).trans rfl
                have hfz24_0 := blk_frozen BK581.out 0
                have hfz24_1 := blk_frozen BK581.out 1
                have p586 : 0 ≤ (x12_1 : Int) := of_decide_eq_true (by first | (with_reducible assumption) | assumption)
                have q586 : x12_1 < (l0_1.length : Int) := of_decide_eq_true (by first | (with_reducible assumption) | assumption)
                obtain ⟨ad586, A586_0, c586_0, e586, hx586_0, hl586_0, hi586_0⟩ := at_L2 HR0_1.out x12_1 p586 q586
                obtain rfl : ad585 = ad586 := (by injection e586)
                replace hx586_0 := (HB.out.cell (World.block_lt_of_cell? w _ hx586_0)).trans hx586_0
                have HR586_0 := Aside0.mk hi586_0
                have HC586_0 := Aside0.mk hl586_0
                clear hi586_0 hl586_0
                replace p586 := eq_true p586
                replace q586 := eq_true q586
                have p587 : 0 ≤ (x14_2 : Int) := of_decide_eq_true (by first | (with_reducible assumption) | assumption)
                have q587 : x14_2 < ((rd_L2 l0_1 x12_1).length : Int) := of_decide_eq_true (by first | (with_reducible assumption) | assumption)
                obtain ⟨ad587, e587, hx587_0, hx587_1⟩ := at_T60 HR586_0.out x14_2 p587 q587
                cases e587
                replace hx587_0 := (HB.out.cell (World.block_lt_of_cell? w _ hx587_0)).trans hx587_0
                replace hx587_1 := (HB.out.cell (World.block_lt_of_cell? w _ hx587_1)).trans hx587_1
                replace p587 := eq_true p587
                replace q587 := eq_true q587
                obtain ⟨Ao25, co25, eo25⟩ := Kd.R_slice HO_11.out
                subst eo25
                have p588 : 0 ≤ (((rd_T60 (rd_L2 l0_1 x12_1) x14_2).f0) : Int) := of_decide_eq_true (by first | (with_reducible assumption) | assumption)
                have q588 : ((rd_T60 (rd_L2 l0_1 x12_1) x14_2).f0) < (t582.length : Int) := of_decide_eq_true (by first | (with_reducible assumption) | assumption)
                obtain ⟨ad588, e588, hx588_0⟩ := Kd.at_int (Kd.R_reads' HO_11.out).2.2 ((rd_T60 (rd_L2 l0_1 x12_1) x14_2).f0) p588 q588
                cases e588
                replace p588 := eq_true p588
                replace q588 := eq_true q588
                have p589 : 0 ≤ (x12_1 : Int) := of_decide_eq_true (by first | (with_reducible assumption) | assumption)
                have q589 : x12_1 < (t582.length : Int) := of_decide_eq_true (by first | (with_reducible assumption) | assumption)
                obtain ⟨ad589, e589, hx589_0⟩ := Kd.at_int (Kd.R_reads' HO_11.out).2.2 x12_1 p589 q589
                obtain rfl : ad588 = ad589 := (by injection e589)
                replace p589 := eq_true p589
                replace q589 := eq_true q589
                go_wp2
                repeat (go_quiet (fail); try go_wp2)
                go_roundg k2
                case measure => have := HK1.out; have := HK2.out; omega
                case rel => exact ⟨(x13_2), (wrap64 (x14_2 - 1)), (by first | rfl | (simp; done) | (simp [*]; done)), (by first | rfl | (simp; done) | (simp [*]; done)), H', ⟨by have := HK1.out; have := HK2.out; omega⟩, ⟨by (with_reducible repeat (first | apply Kd.R_alloc | apply Kd.R_drewN | apply Kd.R_drew)); exact HO_11.out⟩, ⟨by (with_reducible repeat (first | refine blk_drewN ?_ _ | refine blk_drew ?_ | refine blk_alloc ?_ _)); exact BK581.out⟩, ⟨by repeat (first | (with_reducible first | exact HB.out | apply below_alloc | apply pw_below_drewN | apply below_drew1 | refine below_set ?_ GE581.out) | exact HB.out)⟩⟩
              ·
               rw [if_neg c20] at H
               exact absurd H (by simp)
             ·
              rw [if_neg c19] at H
              exact absurd H (by simp)
            ·
             rw [if_neg c18] at H
             exact absurd H (by simp)
           ·
            rw [if_neg c17] at H
            exact absurd H (by simp)
          ·
           rw [if_neg c16] at H
           exact absurd H (by simp)
         ·
          rw [if_neg c15] at H
          exact absurd H (by simp)
        ·
         rw [if_neg c14] at H
         exact absurd H (by simp)
       ·
        rw [if_neg c13] at H
        have c13b0 : decide (0 ≤ x14_2) = false := decide_eq_false c13
        clear c13
        by_cases c26 : 0 ≤ x12_1
        ·
         rw [if_pos c26] at H
         have c26b0 : decide (0 ≤ x12_1) = true := decide_eq_true c26
         clear c26
         by_cases c27 : x12_1 < (l1.length : Int)
         ·
          rw [if_pos c27] at H
          have c27b0 : decide (x12_1 < (l1.length : Int)) = true := decide_eq_true c27
          clear c27
          by_cases c28 : 0 ≤ a3
          ·
           rw [if_pos c28] at H
           have c28b0 : decide (0 ≤ a3) = true := decide_eq_true c28
           clear c28
           by_cases c29 : a3 < ((rd_L3 l1 x12_1).length : Int)
           ·
            rw [if_pos c29] at H
            have c29b0 : decide (a3 < ((rd_L3 l1 x12_1).length : Int)) = true := decide_eq_true c29
            clear c29
            by_cases c30 : x12_1 < (t582.length : Int)
            ·
             rw [if_pos c30] at H
             have c30b0 : decide (x12_1 < (t582.length : Int)) = true := decide_eq_true c30
             clear c30
             by_cases c31 : (rd (rd_L3 l1 x12_1) a3) = (rd t582 x12_1)
             ·
              rw [if_pos c31] at H
              have c31b0 : ((rd (rd_L3 l1 x12_1) a3) == (rd t582 x12_1)) = true := beq_iff_eq.mpr c31
              have c31b1 : ((rd (rd_L3 l1 x12_1) a3) != (rd t582 x12_1)) = false := bne_eq_false_iff_eq.mpr c31
              clear c31
              by_cases c32 : 0 ≤ a4
              ·
               rw [if_pos c32] at H
               have c32b0 : decide (0 ≤ a4) = true := decide_eq_true c32
               clear c32
               by_cases c33 : a4 < ((rd_L3 l1 x12_1).length : Int)
               ·
                rw [if_pos c33] at H
                have c33b0 : decide (a4 < ((rd_L3 l1 x12_1).length : Int)) = true := decide_eq_true c33
                clear c33
                by_cases c34 : (rd (rd_L3 l1 x12_1) a4) = x13_2
                ·
                 rw [if_pos c34] at H
                 have c34b0 : ((rd (rd_L3 l1 x12_1) a4) == x13_2) = true := beq_iff_eq.mpr c34
                 have c34b1 : ((rd (rd_L3 l1 x12_1) a4) != x13_2) = false := bne_eq_false_iff_eq.mpr c34
                 clear c34
                 have H' := Aside0.mk H
                 clear H
                 have p590 : 0 ≤ (x12_1 : Int) := of_decide_eq_true (by first | (with_reducible assumption) | assumption)
                 have q590 : x12_1 < (l1.length : Int) := of_decide_eq_true (by first | (with_reducible assumption) | assumption)
                 obtain ⟨ad590, A590_0, c590_0, e590, hx590_0, hl590_0, hi590_0⟩ := at_L3 HR1.out x12_1 p590 q590
                 cases e590
                 replace hx590_0 := (HB.out.cell (World.block_lt_of_cell? w _ hx590_0)).trans hx590_0
                 have HR590_0 := Aside0.mk hi590_0
                 have HC590_0 := Aside0.mk hl590_0
                 clear hi590_0 hl590_0
                 replace p590 := eq_true p590
                 replace q590 := eq_true q590
                 have p591 : 0 ≤ (a3 : Int) := of_decide_eq_true (by first | (with_reducible assumption) | assumption)
                 have q591 : a3 < ((rd_L3 l1 x12_1).length : Int) := of_decide_eq_true (by first | (with_reducible assumption) | assumption)
                 obtain ⟨ad591, e591, hx591_0⟩ := Kd.at_int HR590_0.out a3 p591 q591
                 cases e591
                 replace hx591_0 := (HB.out.cell (World.block_lt_of_cell? w _ hx591_0)).trans hx591_0
                 replace p591 := eq_true p591
                 replace q591 := eq_true q591
                 obtain ⟨Ao35, co35, eo35⟩ := Kd.R_slice HO_11.out
                 subst eo35
                 have p592 : 0 ≤ (x12_1 : Int) := of_decide_eq_true (by first | (with_reducible assumption) | assumption)
                 have q592 : x12_1 < (t582.length : Int) := of_decide_eq_true (by first | (with_reducible assumption) | assumption)
                 obtain ⟨ad592, e592, hx592_0⟩ := Kd.at_int (Kd.R_reads' HO_11.out).2.2 x12_1 p592 q592
                 cases e592
                 replace p592 := eq_true p592
                 replace q592 := eq_true q592
                 have p593 : 0 ≤ (x12_1 : Int) := of_decide_eq_true (by first | (with_reducible assumption) | assumption)
                 have q593 : x12_1 < (l1.length : Int) := of_decide_eq_true (by first | (with_reducible assumption) | assumption)
                 obtain ⟨ad593, A593_0, c593_0, e593, hx593_0, hl593_0, hi593_0⟩ := at_L3 HR1.out x12_1 p593 q593
                 obtain rfl : ad590 = ad593 := (by injection e593)
                 replace hx593_0 := (HB.out.cell (World.block_lt_of_cell? w _ hx593_0)).trans hx593_0
                 have HR593_0 := Aside0.mk hi593_0
                 have HC593_0 := Aside0.mk hl593_0
                 clear hi593_0 hl593_0
                 replace p593 := eq_true p593
                 replace q593 := eq_true q593
                 have ea_ := Option.some.inj (hx590_0.symm.trans hx593_0)
                 injection ea_ with ea_ en_ ec_
                 subst ea_
                 subst ec_
                 clear en_
                 have p594 : 0 ≤ (a4 : Int) := of_decide_eq_true (by first | (with_reducible assumption) | assumption)
                 have q594 : a4 < ((rd_L3 l1 x12_1).length : Int) := of_decide_eq_true (by first | (with_reducible assumption) | assumption)
                 obtain ⟨ad594, e594, hx594_0⟩ := Kd.at_int HR593_0.out a4 p594 q594
                 cases e594
                 replace hx594_0 := (HB.out.cell (World.block_lt_of_cell? w _ hx594_0)).trans hx594_0
                 replace p594 := eq_true p594
                 replace q594 := eq_true q594
                 go_wp2
                 repeat (go_quiet (fail); try go_wp2)
                 go_roundg k2
                 case measure => have := HK1.out; have := HK2.out; omega
                 case rel => exact ⟨(wrap64 (x12_1 + 1)), (by first | rfl | (simp; done) | (simp [*]; done)), H', ⟨by have := HK1.out; have := HK2.out; omega⟩, ⟨by (with_reducible repeat (first | apply Kd.R_alloc | apply Kd.R_drewN | apply Kd.R_drew)); exact HO_11.out⟩, ⟨by (with_reducible repeat (first | refine blk_drewN ?_ _ | refine blk_drew ?_ | refine blk_alloc ?_ _)); exact BK581.out⟩, ⟨by repeat (first | (with_reducible first | exact HB.out | apply below_alloc | apply pw_below_drewN | apply below_drew1 | refine below_set ?_ GE581.out) | exact HB.out)⟩⟩
                ·
                 rw [if_neg c34] at H
                 have c34b0 : ((rd (rd_L3 l1 x12_1) a4) == x13_2) = false := beq_eq_false_iff_ne.mpr c34
                 have c34b1 : ((rd (rd_L3 l1 x12_1) a4) != x13_2) = true := bne_iff_ne.mpr c34
                 obtain rfl := Option.some.inj H
                 have p590 : 0 ≤ (x12_1 : Int) := of_decide_eq_true (by first | (with_reducible assumption) | assumption)
                 have q590 : x12_1 < (l1.length : Int) := of_decide_eq_true (by first | (with_reducible assumption) | assumption)
                 obtain ⟨ad590, A590_0, c590_0, e590, hx590_0, hl590_0, hi590_0⟩ := at_L3 HR1.out x12_1 p590 q590
                 cases e590
                 replace hx590_0 := (HB.out.cell (World.block_lt_of_cell? w _ hx590_0)).trans hx590_0
                 have HR590_0 := Aside0.mk hi590_0
                 have HC590_0 := Aside0.mk hl590_0
                 clear hi590_0 hl590_0
                 replace p590 := eq_true p590
                 replace q590 := eq_true q590
                 have p591 : 0 ≤ (a3 : Int) := of_decide_eq_true (by first | (with_reducible assumption) | assumption)
                 have q591 : a3 < ((rd_L3 l1 x12_1).length : Int) := of_decide_eq_true (by first | (with_reducible assumption) | assumption)
                 obtain ⟨ad591, e591, hx591_0⟩ := Kd.at_int HR590_0.out a3 p591 q591
                 cases e591
                 replace hx591_0 := (HB.out.cell (World.block_lt_of_cell? w _ hx591_0)).trans hx591_0
                 replace p591 := eq_true p591
                 replace q591 := eq_true q591
                 obtain ⟨Ao36, co36, eo36⟩ := Kd.R_slice HO_11.out
                 subst eo36
                 have p592 : 0 ≤ (x12_1 : Int) := of_decide_eq_true (by first | (with_reducible assumption) | assumption)
                 have q592 : x12_1 < (t582.length : Int) := of_decide_eq_true (by first | (with_reducible assumption) | assumption)
                 obtain ⟨ad592, e592, hx592_0⟩ := Kd.at_int (Kd.R_reads' HO_11.out).2.2 x12_1 p592 q592
                 cases e592
                 replace p592 := eq_true p592
                 replace q592 := eq_true q592
                 have p593 : 0 ≤ (x12_1 : Int) := of_decide_eq_true (by first | (with_reducible assumption) | assumption)
                 have q593 : x12_1 < (l1.length : Int) := of_decide_eq_true (by first | (with_reducible assumption) | assumption)
                 obtain ⟨ad593, A593_0, c593_0, e593, hx593_0, hl593_0, hi593_0⟩ := at_L3 HR1.out x12_1 p593 q593
                 obtain rfl : ad590 = ad593 := (by injection e593)
                 replace hx593_0 := (HB.out.cell (World.block_lt_of_cell? w _ hx593_0)).trans hx593_0
                 have HR593_0 := Aside0.mk hi593_0
                 have HC593_0 := Aside0.mk hl593_0
                 clear hi593_0 hl593_0
                 replace p593 := eq_true p593
                 replace q593 := eq_true q593
                 have ea_ := Option.some.inj (hx590_0.symm.trans hx593_0)
                 injection ea_ with ea_ en_ ec_
                 subst ea_
                 subst ec_
                 clear en_
                 have p594 : 0 ≤ (a4 : Int) := of_decide_eq_true (by first | (with_reducible assumption) | assumption)
                 have q594 : a4 < ((rd_L3 l1 x12_1).length : Int) := of_decide_eq_true (by first | (with_reducible assumption) | assumption)
                 obtain ⟨ad594, e594, hx594_0⟩ := Kd.at_int HR593_0.out a4 p594 q594
                 cases e594
                 replace hx594_0 := (HB.out.cell (World.block_lt_of_cell? w _ hx594_0)).trans hx594_0
                 replace p594 := eq_true p594
                 replace q594 := eq_true q594
                 go_wp2
                 repeat (go_quiet (fail); try go_wp2)
                 go_ret
                 exact ⟨by first | rfl | (simp [errW_none, errW_some] <;> rfl) | (simp [*, errW_none, errW_some] <;> rfl), by repeat (first | (with_reducible first | exact HB.out | apply below_alloc | apply pw_below_drewN | apply below_drew1 | refine below_set ?_ GE581.out) | exact HB.out)⟩
               ·
                rw [if_neg c33] at H
                exact absurd H (by simp)
              ·
               rw [if_neg c32] at H
               exact absurd H (by simp)
             ·
              rw [if_neg c31] at H
              have c31b0 : ((rd (rd_L3 l1 x12_1) a3) == (rd t582 x12_1)) = false := beq_eq_false_iff_ne.mpr c31
              have c31b1 : ((rd (rd_L3 l1 x12_1) a3) != (rd t582 x12_1)) = true := bne_iff_ne.mpr c31
              obtain rfl := Option.some.inj H
              have p590 : 0 ≤ (x12_1 : Int) := of_decide_eq_true (by first | (with_reducible assumption) | assumption)
              have q590 : x12_1 < (l1.length : Int) := of_decide_eq_true (by first | (with_reducible assumption) | assumption)
              obtain ⟨ad590, A590_0, c590_0, e590, hx590_0, hl590_0, hi590_0⟩ := at_L3 HR1.out x12_1 p590 q590
              cases e590
              replace hx590_0 := (HB.out.cell (World.block_lt_of_cell? w _ hx590_0)).trans hx590_0
              have HR590_0 := Aside0.mk hi590_0
              have HC590_0 := Aside0.mk hl590_0
              clear hi590_0 hl590_0
              replace p590 := eq_true p590
              replace q590 := eq_true q590
              have p591 : 0 ≤ (a3 : Int) := of_decide_eq_true (by first | (with_reducible assumption) | assumption)
              have q591 : a3 < ((rd_L3 l1 x12_1).length : Int) := of_decide_eq_true (by first | (with_reducible assumption) | assumption)
              obtain ⟨ad591, e591, hx591_0⟩ := Kd.at_int HR590_0.out a3 p591 q591
              cases e591
              replace hx591_0 := (HB.out.cell (World.block_lt_of_cell? w _ hx591_0)).trans hx591_0
              replace p591 := eq_true p591
              replace q591 := eq_true q591
              obtain ⟨Ao37, co37, eo37⟩ := Kd.R_slice HO_11.out
              subst eo37
              have p592 : 0 ≤ (x12_1 : Int) := of_decide_eq_true (by first | (with_reducible assumption) | assumption)
              have q592 : x12_1 < (t582.length : Int) := of_decide_eq_true (by first | (with_reducible assumption) | assumption)
              obtain ⟨ad592, e592, hx592_0⟩ := Kd.at_int (Kd.R_reads' HO_11.out).2.2 x12_1 p592 q592
              cases e592
              replace p592 := eq_true p592
              replace q592 := eq_true q592
              go_wp2
              repeat (go_quiet (fail); try go_wp2)
              go_ret
              exact ⟨by first | rfl | (simp [errW_none, errW_some] <;> rfl) | (simp [*, errW_none, errW_some] <;> rfl), by repeat (first | (with_reducible first | exact HB.out | apply below_alloc | apply pw_below_drewN | apply below_drew1 | refine below_set ?_ GE581.out) | exact HB.out)⟩
            ·
             rw [if_neg c30] at H
             exact absurd H (by simp)
           ·
            rw [if_neg c29] at H
            exact absurd H (by simp)
          ·
           rw [if_neg c28] at H
           exact absurd H (by simp)
         ·
          rw [if_neg c27] at H
          exact absurd H (by simp)
        ·
         rw [if_neg c26] at H
         exact absurd H (by simp)
    ·
     rw [if_neg c11] at H
     exact absurd H (by simp)
   ·
    rw [if_neg c10] at H
    have c10b0 : decide (x12_1 < (l0_1.length : Int)) = false := decide_eq_false c10
    clear c10
    obtain rfl := Option.some.inj H
    have hcz38_0 : wr.cell? ⟨gb581, 0, none⟩ = some (.slice A0_0 l0_0.length c0_0) := (blk_cell BK581.out 0).trans rfl
    have hcz38_1 : wr.cell? ⟨gb581, 1, none⟩ = some (.slice A0_1 l0_1.length c0_1) := (blk_cell BK581.out 1).trans rfl
    have hfz38_0 := blk_frozen BK581.out 0
    have hfz38_1 := blk_frozen BK581.out 1
    go_wp2
    repeat (go_quiet (fail); try go_wp2)
    go_ret
    exact ⟨by first | rfl | (simp [errW_none, errW_some] <;> rfl) | (simp [*, errW_none, errW_some] <;> rfl), by repeat (first | (with_reducible first | exact HB.out | apply below_alloc | apply pw_below_drewN | apply below_drew1 | refine below_set ?_ GE581.out) | exact HB.out)⟩
end Go.Proofs.YthapikakneikbaaG
/-
  Plain laws: the reference's trees of pointers around a node.
-/
namespace Go.Proofs.YthapikakneikbaaG
open Go.RowKit Go.Proofs.YthapikakneikbaaW.PrintWords Go.Proofs.YthapikakneikbaaW.PrintMore
open Go.Proofs.Ythapikakneikbaa (holdsB confB inRange)
/-- The first port that leads to a smaller number, or -1. -/
def firstP (f : Nat → Int) (d : Int) : List S60 → Nat → Int
  | [], _ => -1
  | l :: r, i => if f l.f0.toNat < d then (i : Int) else firstP f d r (i + 1)
/-- The first port of those from i on that leads to the number before d; else what is given. -/
def firstR (f : Nat → Int) (d : Int) : List S60 → Nat → Int
  | [], _ => -1
  | l :: r, i => if f l.f0.toNat = d - 1 then (i : Int) else firstR f d r (i + 1)
theorem firstR_drop {f : Nat → Int} {d : Int} {row : List S60} {i : Nat} (h : i < row.length) : firstR f d (row.drop i) i = if f row[i].f0.toNat = d - 1 then (i : Int) else firstR f d (row.drop (i + 1)) (i + 1) := by
  rw [List.drop_eq_getElem_cons h]
  rfl
theorem firstR_eq {f : Nat → Int} {d : Int} : ∀ (row : List S60) (i : Nat), (∀ l ∈ row, d - 1 ≤ f l.f0.toNat) → firstR f d row i = firstP f d row i := by
  intro row
  induction row with
  | nil => exact fun _ _ => rfl
  | cons l r ih =>
    intro i h
    have h1 := h l List.mem_cons_self
    unfold firstR firstP
    rw [ih (i + 1) (fun l hl => h l (List.mem_cons_of_mem _ hl))]
    by_cases e : f l.f0.toNat = d - 1
    · rw [if_pos e, if_pos (by omega)]
    · rw [if_neg e, if_neg (by omega)]
section
variable {ids : List Int} {p : List (List S60)} {c : List (List Int)}
theorem row_get {v : Nat} (hv : v < p.length) : rd_L2 p (v : Int) = p[v] := by rw [rdPorts_nat, List.getD_eq_getElem?_getD, List.getElem?_eq_getElem hv]; rfl
/-- The pointer of node v in the tree around node a. -/
def ptrS (p : List (List S60)) (a v : Nat) : Int := firstP (distTo p a p.length) (distTo p a p.length v) (p.getD v []) 0
/-- The states are right: distances from node a at place d, pointers at place q. -/
def treeRow (p : List (List S60)) (c : List (List Int)) (a d q v : Nat) : Bool := decide ((c.getD v []).getD d 0 = distTo p a p.length v) && decide ((c.getD v []).getD q 0 = ptrS p a v)
def treeS (p : List (List S60)) (c : List (List Int)) (a d q : Nat) : Bool := (List.range p.length).all (treeRow p c a d q)
theorem range_all {q : Nat → Bool} {n i : Nat} (hi : i < n) (h : q i = false) : (List.range n).all q = false := by
  rw [List.all_eq_false]
  exact ⟨i, List.mem_range.2 hi, by simp [h]⟩
theorem range_succ_all {q : Nat → Bool} {i : Nat} : (List.range (i + 1)).all q = ((List.range i).all q && q i) := by
  rw [List.range_succ, List.all_append]
  simp
theorem rtree_l1 (hV : (toG ids p).valid = true) (a d q : Nat) (hd : d < 6) (hq : q < 6) {v : Nat} (hv : v < p.length) (hc : c.length = p.length) (hrw : d < (c.getD v []).length ∧ q < (c.getD v []).length) (r : Bool)
    (hyes : treeRow p c a d q v = true → Ev (fun k => selfstabref23_Tree.l0 k c (d : Int) (q : Int) (distL p a) ((v + 1 : Nat) : Int) ids p) r) (hno : treeRow p c a d q v = false → r = false)
    (hnear : ∀ l ∈ p[v], distTo p a p.length v - 1 ≤ distTo p a p.length l.f0.toNat) : ∀ i, i ≤ p[v].length →
    Ev (fun k => selfstabref23_Tree.l1 k c (d : Int) (q : Int) (distL p a) (v : Int) (firstR (distTo p a p.length) (distTo p a p.length v) (p[v].drop i) i) ((i : Int) - 1) ids p) r := by
  have hs := valid_size hV
  have hlen : (distL p a).length = p.length := distL_len p a
  have hrow : rd_L2 p (v : Int) = p[v] := row_get hv
  have hcrow : rd_L3 c (v : Int) = c.getD v [] := rdRow_nat
  have hdv : rd (distL p a) (v : Int) = distTo p a p.length v := outL_rd hv
  have hsm := row_small hV hv
  have hend := distTo_end (p := p) a v
  have hlo : -1 ≤ distTo p a p.length v := by rcases distTo_cases (p := p) (a := a) p.length v with ⟨h1, _⟩ | ⟨e, _, _, h2⟩ <;> omega
  have cv0 : (0 : Int) ≤ (v : Int) := by omega
  have cv : (v : Int) < (p.length : Int) := by omega
  have cvl : (v : Int) < ((distL p a).length : Int) := by rw [hlen]; exact cv
  intro i
  induction i with
  | zero =>
    intro _
    have hp : firstR (distTo p a p.length) (distTo p a p.length v) (p[v].drop 0) 0 = ptrS p a v := by
      unfold ptrS
      rw [List.drop_zero, firstR_eq _ _ hnear, List.getD_eq_getElem?_getD, List.getElem?_eq_getElem hv]
      rfl
    rw [hp]
    have rdd : rd (c.getD v []) (d : Int) = (c.getD v []).getD d 0 := rd_getD
    have rdq : rd (c.getD v []) (q : Int) = (c.getD v []).getD q 0 := rd_getD
    by_cases h0 : (c.getD v []).getD d 0 = distTo p a p.length v
    · by_cases h1 : (c.getD v []).getD q 0 = ptrS p a v
      · refine Ev.step (fun k => ?_) (hyes (by unfold treeRow; rw [decide_eq_true h0, decide_eq_true h1]; rfl))
        rw [selfstabref23_Tree.l1, if_neg (by omega), if_pos cv0, if_pos (by omega), if_pos (by omega), hcrow, if_pos (by omega), if_pos cvl, rdd, hdv, if_pos h0, if_pos (by omega), if_pos (by omega), rdq, if_pos h1, wrap_id (by omega) (by omega)]
        rfl
      · refine Ev.step (f := fun _ => some false) (fun k => ?_) (Ev.some' (hno (by unfold treeRow; rw [decide_eq_false h1, Bool.and_false])).symm)
        rw [selfstabref23_Tree.l1, if_neg (by omega), if_pos cv0, if_pos (by omega), if_pos (by omega), hcrow, if_pos (by omega), if_pos cvl, rdd, hdv, if_pos h0, if_pos (by omega), if_pos (by omega), rdq, if_neg h1]
    · refine Ev.step (f := fun _ => some false) (fun k => ?_) (Ev.some' (hno (by unfold treeRow; rw [decide_eq_false h0, Bool.false_and])).symm)
      rw [selfstabref23_Tree.l1, if_neg (by omega), if_pos cv0, if_pos (by omega), if_pos (by omega), hcrow, if_pos (by omega), if_pos cvl, rdd, hdv, if_neg h0]
  | succ i ih =>
    intro hi
    have hil : i < p[v].length := by omega
    obtain ⟨g1, g2, _⟩ := valid_to hV hv (List.getElem_mem hil)
    obtain ⟨t, ht⟩ := Int.eq_ofNat_of_zero_le g1
    have hlk : rd_T60 p[v] (i : Int) = p[v][i] := rdLink_nat hil
    have hdt : rd (distL p a) (t : Int) = distTo p a p.length t := outL_rd (by omega)
    have ct0 : (0 : Int) ≤ (t : Int) := by omega
    have ct : (t : Int) < ((distL p a).length : Int) := by rw [hlen]; omega
    have ei : ((i + 1 : Nat) : Int) - 1 = (i : Int) := by omega
    have ci : (i : Int) < (p[v].length : Int) := by omega
    have h := ih (by omega)
    rw [firstR_drop hil, ht, Int.toNat_natCast] at h
    rw [ei]
    by_cases e : distTo p a p.length t = distTo p a p.length v - 1
    · rw [if_pos e] at h
      refine Ev.step (fun k => ?_) h
      rw [selfstabref23_Tree.l1, if_pos (by omega), if_pos cv0, if_pos cv, if_pos (by omega), hrow, if_pos ci, hlk, ht, if_pos ct0, if_pos ct, if_pos cvl, hdt, hdv, wrap_id (by omega) (by omega), if_pos e, wrap_id (by omega) (by omega)]
    · rw [if_neg e] at h
      refine Ev.step (fun k => ?_) h
      rw [selfstabref23_Tree.l1, if_pos (by omega), if_pos cv0, if_pos cv, if_pos (by omega), hrow, if_pos ci, hlk, ht, if_pos ct0, if_pos ct, if_pos cvl, hdt, hdv, wrap_id (by omega) (by omega), if_neg e, wrap_id (by omega) (by omega)]
theorem rtree_l0 (hC : connG ids p = true) {a : Nat} (ha : a < p.length) (d q : Nat) (hd : d < 6) (hq : q < 6) (hc : c.length = p.length) (hr : ∀ v, v < p.length → d < (c.getD v []).length ∧ q < (c.getD v []).length) : ∀ m v, m + v = p.length → (List.range v).all (treeRow p c a d q) = true →
    Ev (fun k => selfstabref23_Tree.l0 k c (d : Int) (q : Int) (distL p a) (v : Int) ids p) (treeS p c a d q) := by
  have hV := conn_valid hC
  have hs := valid_size hV
  intro m
  induction m with
  | zero =>
    intro v hm h
    obtain rfl : v = p.length := by omega
    refine Ev.step (f := fun _ => some (treeS p c a d q)) (fun k => ?_) Ev.some
    rw [selfstabref23_Tree.l0, if_neg (by omega)]
    unfold treeS
    rw [h]
  | succ m ih =>
    intro v hm h
    have hv : v < p.length := by omega
    have hsm := row_small hV hv
    have h1 := rtree_l1 (c := c) hV a d q hd hq hv hc (hr v hv) (treeS p c a d q) (fun ht => ih (v + 1) (by omega) (by rw [range_succ_all, h, ht]; rfl)) (fun hf => range_all hv hf) (fun l hl => by
      obtain ⟨g1, g2, _⟩ := valid_to hV hv hl
      have hn := dist_near (p := p) (a := a) hv (u := l.f0.toNat) (by omega) (adj_sym hV hv (by omega) (by
        unfold adjP
        rw [List.getD_eq_getElem?_getD, List.getElem?_eq_getElem hv, List.any_eq_true]
        exact ⟨l, hl, decide_eq_true (by omega)⟩)) (conn_from hC ha _ (by omega))
      omega) p[v].length (Nat.le_refl _)
    refine Ev.step (fun k => ?_) h1
    rw [selfstabref23_Tree.l0, if_pos (by omega), if_pos (by omega), row_get hv, wrap_id (by omega) (by omega), List.drop_length]
    rfl
theorem rtree_ev (hC : connG ids p = true) {a : Nat} (ha : a < p.length) (d q : Nat) (hd : d < 6) (hq : q < 6) (hc : c.length = p.length) (hr : ∀ v, v < p.length → d < (c.getD v []).length ∧ q < (c.getD v []).length) :
    Ev (fun k => selfstabref23_Tree.f k ids p c (a : Int) (d : Int) (q : Int)) (treeS p c a d q) := by
  unfold selfstabref23_Tree.f
  refine Ev.bind (rdist_ev ids p a) ?_
  rw [distS_yes (conn_valid hC) ha]
  exact rtree_l0 hC ha d q hd hq hc hr p.length 0 (by omega) rfl
end
end Go.Proofs.YthapikakneikbaaG
namespace Go.Proofs.YthapikakneikbaaG
open Go.RowKit Go.Proofs.YthapikakneikbaaW.PrintWords Go.Proofs.YthapikakneikbaaW.PrintLast Go.Proofs.YthapikakneikbaaW.PrintMore
attribute [local go_sem] max2_int min2_int max_two min_two max_three min_three max_four min_four   -- for this text's walks alone
set_option linter.unusedVariables false
set_option linter.unusedSimpArgs false
theorem eqA44 (d : Nat) (w : World) (x0 y0 : Int) (x1 y1 : Bool) (x2 y2 : Bool) (x3 y3 : Int) (x4 y4 : Int) :
  (Op.equalIn (d + 2) 44 (.agg #[.int .i64 x0, .bool x1, .bool x2, .int .i64 x3, .int .i64 x4]) (.agg #[.int .i64 y0, .bool y1, .bool y2, .int .i64 y3, .int .i64 y4])).run Try.prog w = .ok (x0 == y0 && (x1 == y1 && (x2 == y2 && (x3 == y3 && (x4 == y4))))) w := by
 refine eqA_of Try.underlying44 (by kernel_rfl) ?_
 refine eqf_cons (by rfl) (by go_simp; rfl) (by go_simp; rfl) (by go_simp) ?_
 refine eqf_cons (by rfl) (by go_simp; rfl) (by go_simp; rfl) (by go_simp) ?_
 refine eqf_cons (by rfl) (by go_simp; rfl) (by go_simp; rfl) (by go_simp) ?_
 refine eqf_cons (by rfl) (by go_simp; rfl) (by go_simp; rfl) (by go_simp) ?_
 exact eqf_last (by rfl) (by go_simp; rfl) (by go_simp; rfl) (by go_simp)
end Go.Proofs.YthapikakneikbaaG
namespace Go.Proofs.YthapikakneikbaaG
open Go.RowKit Go.Proofs.YthapikakneikbaaW.PrintWords Go.Proofs.YthapikakneikbaaW.PrintLast Go.Proofs.YthapikakneikbaaW.PrintMore
attribute [local go_sem] max2_int min2_int max_two min_two max_three min_three max_four min_four   -- for this text's walks alone
set_option linter.unusedVariables false
set_option linter.unusedSimpArgs false
def selfstablaw26_large.f (l0_0 : List Int) (l0_1 : List (List (S60))) (l1 : List (List Int)) : Option (Bool) := if (l0_1.length : Int) > 60 then (some true) else (if (l0_0.length : Int) > 60 then (some true) else (some (decide ((l1.length : Int) > 60))))
set_option maxHeartbeats 8000000 in
set_option maxRecDepth 100000 in
theorem selfstablaw26_large.calls (A0_0 : Option Addr) (c0_0 : Nat) (l0_0 : List Int) (A0_1 : Option Addr) (c0_1 : Nat) (l0_1 : List (List (S60))) (A1 : Option Addr) (c1 : Nat) (l1 : List (List Int)) (r : Bool) (w : World) (hr0_0 : Kd.C (Kd.int .i64) w A0_0 l0_0.length l0_0) (hc0_0 : l0_0.length ≤ c0_0) (hr0_1 : Kd.C (Kd.slice 60 k60) w A0_1 l0_1.length l0_1) (hc0_1 : l0_1.length ≤ c0_1) (hr1 : Kd.C (Kd.slice 3 (Kd.int .i64)) w A1 l1.length l1) (hc1 : l1.length ≤ c1) (h : selfstablaw26_large.f l0_0 l0_1 l1 = some r) :
  Calls Try.prog 47 #[.agg #[.slice A0_0 l0_0.length c0_0, .slice A0_1 l0_1.length c0_1], .slice A1 l1.length c1] w fun e w' => e = .returned (.bool r) ∧ Below w.heap.size w w' := by
 have hu27 := Try.underlying27
 have HR0_0 := Aside0.mk hr0_0
 have HC0_0 := Aside0.mk hc0_0
 clear hr0_0 hc0_0
 have HR0_1 := Aside0.mk hr0_1
 have HC0_1 := Aside0.mk hc0_1
 clear hr0_1 hc0_1
 have HR1 := Aside0.mk hr1
 have HC1 := Aside0.mk hc1
 clear hr1 hc1
 have HB := Aside0.mk (Below.refl w.heap.size w)
 have H : (if (l0_1.length : Int) > 60 then (some true) else (if (l0_0.length : Int) > 60 then (some true) else (some (decide ((l1.length : Int) > 60))))) = some r := h
 clear h
 by_cases c3 : (l0_1.length : Int) > 60
 ·
  rw [if_pos c3] at H
  have c3b0 : decide (60 < (l0_1.length : Int)) = true := decide_eq_true c3
  have c3b1 : decide (60 < l0_1.length) = true := decide_eq_true (by omega)
  clear c3
  obtain rfl := Option.some.inj H
  go_enter Try.func47, Try.ntmps47
  go_wp2_with (first | ((with_reducible refine gate_dst (N := 2) rfl ?_); (try (refine gate_guard (by rfl) ?_; dsimp only)); refine box_event ?hg (N := 2) ?hd (cs := #[.slice A0_0 l0_0.length c0_0, .slice A0_1 l0_1.length c0_1]) (t := 27) ?hr ?_; (case hd => rfl); (case hg => rfl); (case hr => first | (go_simp; done) | (go_simp; rfl)); intro gb658 hg w4 hbox hb; have n0_ := Aside0.mk (below_step (by repeat (first | (with_reducible first | exact HB.out | apply below_alloc | apply pw_below_drewN | apply below_drew1) | exact HB.out)) hb); have n1_ := Aside0.mk (hbox); have n2_ := Aside0.mk ((by rw [hg]; exact (below_size (by repeat (first | (with_reducible first | exact HB.out | apply below_alloc | apply pw_below_drewN | apply below_drew1) | exact HB.out))) : w.heap.size ≤ gb658)); have n3_ := Aside0.mk ((by rw [hg]; exact (below_size (by repeat (first | (with_reducible first | exact HB.out | apply below_alloc | apply pw_below_drewN | apply below_drew1) | exact HB.out))) : w.heap.size ≤ gb658)); clear HB; have HB := n0_; have BK658 := n1_; have GW658 := n2_; have GE658 := n3_; clear n0_ n1_ n2_ n3_; clear hb hbox hg; have hcz5_0 : w4.cell? ⟨gb658, 0, none⟩ = some (.slice A0_0 l0_0.length c0_0) := (blk_cell BK658.out 0).trans rfl; have hcz5_1 : w4.cell? ⟨gb658, 1, none⟩ = some (.slice A0_1 l0_1.length c0_1) := (blk_cell BK658.out 1).trans rfl; have hfz5_0 := blk_frozen BK658.out 0; have hfz5_1 := blk_frozen BK658.out 1))
  go_ret
  exact ⟨by first | rfl | (simp [errW_none, errW_some] <;> rfl) | (simp [*, errW_none, errW_some] <;> rfl), by repeat (first | (with_reducible first | exact HB.out | apply below_alloc | apply pw_below_drewN | apply below_drew1 | refine below_set ?_ GE658.out) | exact HB.out)⟩
 ·
  rw [if_neg c3] at H
  have c3b0 : decide (60 < (l0_1.length : Int)) = false := decide_eq_false c3
  have c3b1 : decide (60 < l0_1.length) = false := decide_eq_false (by omega)
  clear c3
  by_cases c6 : (l0_0.length : Int) > 60
  ·
   rw [if_pos c6] at H
   have c6b0 : decide (60 < (l0_0.length : Int)) = true := decide_eq_true c6
   have c6b1 : decide (60 < l0_0.length) = true := decide_eq_true (by omega)
   clear c6
   obtain rfl := Option.some.inj H
   go_enter Try.func47, Try.ntmps47
   go_wp2_with (first | ((with_reducible refine gate_dst (N := 2) rfl ?_); (try (refine gate_guard (by rfl) ?_; dsimp only)); refine box_event ?hg (N := 2) ?hd (cs := #[.slice A0_0 l0_0.length c0_0, .slice A0_1 l0_1.length c0_1]) (t := 27) ?hr ?_; (case hd => rfl); (case hg => rfl); (case hr => first | (go_simp; done) | (go_simp; rfl)); intro gb658 hg w7 hbox hb; have n0_ := Aside0.mk (below_step (by repeat (first | (with_reducible first | exact HB.out | apply below_alloc | apply pw_below_drewN | apply below_drew1) | exact HB.out)) hb); have n1_ := Aside0.mk (hbox); have n2_ := Aside0.mk ((by rw [hg]; exact (below_size (by repeat (first | (with_reducible first | exact HB.out | apply below_alloc | apply pw_below_drewN | apply below_drew1) | exact HB.out))) : w.heap.size ≤ gb658)); have n3_ := Aside0.mk ((by rw [hg]; exact (below_size (by repeat (first | (with_reducible first | exact HB.out | apply below_alloc | apply pw_below_drewN | apply below_drew1) | exact HB.out))) : w.heap.size ≤ gb658)); clear HB; have HB := n0_; have BK658 := n1_; have GW658 := n2_; have GE658 := n3_; clear n0_ n1_ n2_ n3_; clear hb hbox hg; have hcz8_0 : w7.cell? ⟨gb658, 0, none⟩ = some (.slice A0_0 l0_0.length c0_0) := (blk_cell BK658.out 0).trans rfl; have hcz8_1 : w7.cell? ⟨gb658, 1, none⟩ = some (.slice A0_1 l0_1.length c0_1) := (blk_cell BK658.out 1).trans rfl; have hfz8_0 := blk_frozen BK658.out 0; have hfz8_1 := blk_frozen BK658.out 1))
   go_ret
   exact ⟨by first | rfl | (simp [errW_none, errW_some] <;> rfl) | (simp [*, errW_none, errW_some] <;> rfl), by repeat (first | (with_reducible first | exact HB.out | apply below_alloc | apply pw_below_drewN | apply below_drew1 | refine below_set ?_ GE658.out) | exact HB.out)⟩
  ·
   rw [if_neg c6] at H
   have c6b0 : decide (60 < (l0_0.length : Int)) = false := decide_eq_false c6
   have c6b1 : decide (60 < l0_0.length) = false := decide_eq_false (by omega)
   clear c6
   obtain rfl := Option.some.inj H
   go_enter Try.func47, Try.ntmps47
   go_wp2_with (first | ((with_reducible refine gate_dst (N := 2) rfl ?_); (try (refine gate_guard (by rfl) ?_; dsimp only)); refine box_event ?hg (N := 2) ?hd (cs := #[.slice A0_0 l0_0.length c0_0, .slice A0_1 l0_1.length c0_1]) (t := 27) ?hr ?_; (case hd => rfl); (case hg => rfl); (case hr => first | (go_simp; done) | (go_simp; rfl)); intro gb658 hg w9 hbox hb; have n0_ := Aside0.mk (below_step (by repeat (first | (with_reducible first | exact HB.out | apply below_alloc | apply pw_below_drewN | apply below_drew1) | exact HB.out)) hb); have n1_ := Aside0.mk (hbox); have n2_ := Aside0.mk ((by rw [hg]; exact (below_size (by repeat (first | (with_reducible first | exact HB.out | apply below_alloc | apply pw_below_drewN | apply below_drew1) | exact HB.out))) : w.heap.size ≤ gb658)); have n3_ := Aside0.mk ((by rw [hg]; exact (below_size (by repeat (first | (with_reducible first | exact HB.out | apply below_alloc | apply pw_below_drewN | apply below_drew1) | exact HB.out))) : w.heap.size ≤ gb658)); clear HB; have HB := n0_; have BK658 := n1_; have GW658 := n2_; have GE658 := n3_; clear n0_ n1_ n2_ n3_; clear hb hbox hg; have hcz10_0 : w9.cell? ⟨gb658, 0, none⟩ = some (.slice A0_0 l0_0.length c0_0) := (blk_cell BK658.out 0).trans rfl; have hcz10_1 : w9.cell? ⟨gb658, 1, none⟩ = some (.slice A0_1 l0_1.length c0_1) := (blk_cell BK658.out 1).trans rfl; have hfz10_0 := blk_frozen BK658.out 0; have hfz10_1 := blk_frozen BK658.out 1))
   go_ret
   exact ⟨by first | rfl | (simp [errW_none, errW_some] <;> rfl) | (simp [*, errW_none, errW_some] <;> rfl), by repeat (first | (with_reducible first | exact HB.out | apply below_alloc | apply pw_below_drewN | apply below_drew1 | refine below_set ?_ GE658.out) | exact HB.out)⟩
end Go.Proofs.YthapikakneikbaaG
namespace Go.Proofs.YthapikakneikbaaG
open Go.RowKit Go.Proofs.YthapikakneikbaaW.PrintWords Go.Proofs.YthapikakneikbaaW.PrintLast Go.Proofs.YthapikakneikbaaW.PrintMore
attribute [local go_sem] max2_int min2_int max_two min_two max_three min_three max_four min_four   -- for this text's walks alone
set_option linter.unusedVariables false
set_option linter.unusedSimpArgs false
def leader_Fit.f (k : Nat) (l0_0 : List Int) (l0_1 : List (List (S60))) : Option (Bool) := (graph_Connected.f k l0_0 l0_1).bind fun t660 => (some t660)
theorem leader_Fit.mono : ∀ a0 a1 k, LeO (leader_Fit.f k a0 a1) (leader_Fit.f (k + 1) a0 a1) := by
 intro a0 a1 k
 unfold leader_Fit.f
 repeat' first
   | (with_reducible exact graph_Connected.mono _ _ _)
   | (with_reducible exact LeO.refl _)
   | (with_reducible exact LeO.none _)
   | (with_reducible refine LeO.ite ?_ ?_)
   | (with_reducible refine LeO.bind ?_ (fun _ => ?_))
   | exact graph_Connected.mono _ _ _
   | exact LeO.none _
   | refine LeO.ite ?_ ?_
   | refine LeO.bind ?_ (fun _ => ?_)
set_option maxHeartbeats 8000000 in
set_option maxRecDepth 100000 in
theorem leader_Fit.calls (k : Nat) (A0_0 : Option Addr) (c0_0 : Nat) (l0_0 : List Int) (A0_1 : Option Addr) (c0_1 : Nat) (l0_1 : List (List (S60))) (r : Bool) (w : World) (hr0_0 : Kd.C (Kd.int .i64) w A0_0 l0_0.length l0_0) (hc0_0 : l0_0.length ≤ c0_0) (hr0_1 : Kd.C (Kd.slice 60 k60) w A0_1 l0_1.length l0_1) (hc0_1 : l0_1.length ≤ c0_1) (h : leader_Fit.f k l0_0 l0_1 = some r) :
  Calls Try.prog 49 #[.agg #[.slice A0_0 l0_0.length c0_0, .slice A0_1 l0_1.length c0_1]] w fun e w' => e = .returned (.bool r) ∧ Below w.heap.size w w' := by
 have hu27 := Try.underlying27
 have HR0_0 := Aside0.mk hr0_0
 have HC0_0 := Aside0.mk hc0_0
 clear hr0_0 hc0_0
 have HR0_1 := Aside0.mk hr0_1
 have HC0_1 := Aside0.mk hc0_1
 clear hr0_1 hc0_1
 have HB := Aside0.mk (Below.refl w.heap.size w)
 have H : ((graph_Connected.f k l0_0 l0_1).bind fun t660 => (some t660)) = some r := h
 clear h
 replace H := Option.bind_eq_some_iff.mp H
 obtain ⟨t660, A20, H⟩ := H
 replace H : (some t660) = some r := H
 have A2 := Aside0.mk A20
 clear A20
 obtain rfl := Option.some.inj H
 go_enter Try.func49, Try.ntmps49
 go_wp2_with (first | ((with_reducible refine gate_dst (N := 1) rfl ?_); refine box_event ?hg (N := 1) ?hd (cs := #[.slice A0_0 l0_0.length c0_0, .slice A0_1 l0_1.length c0_1]) (t := 27) ?hr ?_; (case hd => rfl); (case hg => rfl); (case hr => first | (go_simp; done) | (go_simp; rfl)); intro gb659 hg w3 hbox hb; have n0_ := Aside0.mk (below_step (by repeat (first | (with_reducible first | exact HB.out | apply below_alloc | apply pw_below_drewN | apply below_drew1) | exact HB.out)) hb); have n1_ := Aside0.mk (hbox); have n2_ := Aside0.mk ((by rw [hg]; exact (below_size (by repeat (first | (with_reducible first | exact HB.out | apply below_alloc | apply pw_below_drewN | apply below_drew1) | exact HB.out))) : w.heap.size ≤ gb659)); have n3_ := Aside0.mk ((by rw [hg]; exact (below_size (by repeat (first | (with_reducible first | exact HB.out | apply below_alloc | apply pw_below_drewN | apply below_drew1) | exact HB.out))) : w.heap.size ≤ gb659)); clear HB; have HB := n0_; have BK659 := n1_; have GW659 := n2_; have GE659 := n3_; clear n0_ n1_ n2_ n3_; clear hb hbox hg; have hcz4_0 : w3.cell? ⟨gb659, 0, none⟩ = some (.slice A0_0 l0_0.length c0_0) := (blk_cell BK659.out 0).trans rfl; have hcz4_1 : w3.cell? ⟨gb659, 1, none⟩ = some (.slice A0_1 l0_1.length c0_1) := (blk_cell BK659.out 1).trans rfl; have hfz4_0 := blk_frozen BK659.out 0; have hfz4_1 := blk_frozen BK659.out 1) | ((with_reducible refine gate_callee (f := 87) rfl ?_); refine goesL_ (some 4) rfl rfl Try.func87 (by kernel_rfl) rfl #[.agg #[.slice A0_0 l0_0.length c0_0, .slice A0_1 l0_1.length c0_1]] rfl (by (try simp only [List.map_toArray, List.map_cons, List.map_nil]); first | done | rfl | (simp only [List.length_drop, List.length_take]; rfl)) ?_; (with_reducible refine (graph_Connected.calls k _ _ l0_0 _ _ l0_1 t660 _ ?side1 ?side2 ?side3 ?side4 A2.out).mono ?_); (case side1 => repeat (first | exact (Kd.C_below HR0_0.out HB.out) | (with_reducible refine Kd.C_alloc ?_ _) | (with_reducible refine Kd.C_drewN ?_ _) | (with_reducible refine Kd.C_drew ?_))); (case side2 => exact HC0_0.out); (case side3 => repeat (first | exact (Kd.C_below HR0_1.out HB.out) | (with_reducible refine Kd.C_alloc ?_ _) | (with_reducible refine Kd.C_drewN ?_ _) | (with_reducible refine Kd.C_drew ?_))); (case side4 => exact HC0_1.out); rintro e w5 ⟨rfl, hb⟩; refine ⟨_, rfl, ?_⟩; have n0_ := Aside0.mk (blk_below (g := gb659) (o := .cells #[.slice A0_0 l0_0.length c0_0, .slice A0_1 l0_1.length c0_1] 27 (0, 0)) (by (with_reducible repeat (first | refine blk_drewN ?_ _ | refine blk_drew ?_ | refine blk_alloc ?_ _)); exact BK659.out) hb); have n1_ := Aside0.mk (below_step (by repeat (first | (with_reducible first | exact HB.out | apply below_alloc | apply pw_below_drewN | apply below_drew1 | refine below_set ?_ GE659.out) | exact HB.out)) hb); clear BK659; clear HB; have BK659 := n0_; have HB := n1_; clear n0_ n1_; (try clear hb); (try clear hb2); (try clear hk); (try clear hi)))
 go_ret
 exact ⟨by first | rfl | (simp [errW_none, errW_some] <;> rfl) | (simp [*, errW_none, errW_some] <;> rfl), by repeat (first | (with_reducible first | exact HB.out | apply below_alloc | apply pw_below_drewN | apply below_drew1 | refine below_set ?_ GE659.out) | exact HB.out)⟩
end Go.Proofs.YthapikakneikbaaG
/-
  slices.IndexFunc over the closure of leader.Legit: the first port that leads to a smaller number.
-/
namespace Go.Proofs.Ythapikakneikbaa
open Go.RowKit
/-- The closure: it reads both numbers. -/
theorem less_calls (w : World) (D V : Nat) (A : Option Addr) (k0 : Nat) (dl : List Int) (v : Nat) (hd : w.heap[D]? = some (.cells #[.slice A dl.length k0] 22 (0, 0))) (hv : ∃ T, w.heap[V]? = some (.cells #[.int .i64 (v : Nat)] T (0, 0))) (hc : (Kd.int .i64).C w A dl)
    (t : Nat) (y : Int) (ht : t < dl.length) (hvl : v < dl.length) :
    Calls Try.prog 101 #[.agg #[.int .i64 t, .int .i64 y], .pointer (some ⟨D, 0, none⟩), .pointer (some ⟨V, 0, none⟩)] w fun e w' => e = .returned (.bool (decide (dl.getD t 0 < dl.getD v 0))) ∧ Below w.heap.size w w' := by
  obtain ⟨T, hv⟩ := hv
  have cD := blk_cell (j := 0) (v := .slice A dl.length k0) hd rfl
  have cV := blk_cell (j := 0) (v := .int .i64 (v : Nat)) hv rfl
  obtain ⟨ad, hA, hct⟩ := Kd.at_int hc t ht
  cases hA
  obtain ⟨ad2, hA, hcv⟩ := Kd.at_int hc v hvl
  cases hA
  have HT : Hid (dl.getD t 0 = dl[t]) := by unfold Hid; simp [List.getD_eq_getElem?_getD, ht]
  have HV : Hid (dl.getD v 0 = dl[v]) := by unfold Hid; simp [List.getD_eq_getElem?_getD, hvl]
  generalize dl[t] = yt at hct HT
  generalize dl[v] = yv at hcv HV
  have hcm := Kd.C_max hc
  have hB := (Below.refl w.heap.size w).alloc (Nat.le_refl _) (.cells #[.int .i64 t, .int .i64 y] 60)
  have HB := Lib.hid hB
  have dD := cell_b hB cD
  have dV := cell_b hB cV
  have dt := cell_b hB hct
  have dv := cell_b hB hcv
  have n0 := cell_new w #[.int .i64 t, .int .i64 y] 60 0 (.int .i64 t) rfl
  have n1 := cell_new w #[.int .i64 t, .int .i64 y] 60 1 (.int .i64 y) rfl
  clear hc hd hv cD cV hct hcv hB
  have hu := Try.underlying60
  go_enter Try.func101, Try.ntmps101
  go_wp2_with fail
  generalize w.alloc _ = w1 at HB dD dV dt dv n0 n1 ⊢
  go_quiet (fail)
  go_wp2_with fail
  go_ret
  exact ⟨by rw [HT.out, HV.out]; rfl, ⟨HB.out.os, HB.out.tape, HB.out.output, HB.out.size, HB.out.block⟩⟩
/-- The first link to a smaller number than v's, or -1. -/
def firstL (dl : List Int) (v : Nat) : List Link → Nat → Int
  | [], _ => -1
  | l :: r, i => if dl.getD l.to_.toNat 0 < dl.getD v 0 then (i : Int) else firstL dl v r (i + 1)
theorem firstL_drop {dl : List Int} {v : Nat} {ps : List Link} {i : Nat} (h : i < ps.length) : firstL dl v (ps.drop i) i = if dl.getD ps[i].to_.toNat 0 < dl.getD v 0 then (i : Int) else firstL dl v (ps.drop (i + 1)) (i + 1) := by
  rw [List.drop_eq_getElem_cons h]
  rfl
set_option maxHeartbeats 2000000 in
theorem index_calls (w : World) (AP : Option Addr) (cP : Nat) (ps : List Link) (hps : kLink.C w AP ps) (D V : Nat) (A : Option Addr) (k0 : Nat) (dl : List Int) (v : Nat) (hd : w.heap[D]? = some (.cells #[.slice A dl.length k0] 22 (0, 0))) (hv : ∃ T, w.heap[V]? = some (.cells #[.int .i64 (v : Nat)] T (0, 0))) (hc : (Kd.int .i64).C w A dl)
    (hto : ∀ l ∈ ps, 0 ≤ l.to_ ∧ l.to_ < dl.length) (hvl : v < dl.length) :
    Calls Try.prog 100 #[.slice AP ps.length cP, .func (.func 101) #[] #[.pointer (some ⟨D, 0, none⟩), .pointer (some ⟨V, 0, none⟩)]] w fun e w' => e = .returned (.int .i64 (firstL dl v ps 0)) ∧ Below w.heap.size w w' := by
  obtain ⟨T, hv⟩ := hv
  have HP := Lib.hid hps
  have HD := Lib.hid hd
  have HV := Lib.hid hv
  have HC := Lib.hid hc
  have HTO := Lib.hid hto
  have hpm := Kd.C_max hps
  clear hps hd hv hc hto
  go_enter Try.func100, Try.ntmps100
  go_wp2_with fail
  go_loopw [8] (fun i wr => ∃ k : Nat, k ≤ ps.length ∧ i = .int .i64 k ∧ firstL dl v ps 0 = firstL dl v (ps.drop k) k ∧ Below w.heap.size w wr) (fun i _ => ps.length - (intOf i).toNat)
  case atStart => exact ⟨0, Nat.zero_le _, rfl, rfl, Below.refl _ _⟩
  case round =>
    obtain ⟨wi, rfl⟩ : ∃ wi : World, wi = wr := ⟨_, rfl⟩
    obtain ⟨k, hk, rfl, hf, hb⟩ := hrel
    have HB := Lib.hid hb
    have HF := Lib.hid hf
    have HPi := Lib.hid (Kd.C_below HP.out hb)
    have HDi := Lib.hid (blk_below HD.out hb)
    have HVi := Lib.hid (blk_below HV.out hb)
    have HCi := Lib.hid (Kd.C_below HC.out hb)
    have hzi := hb.size
    clear hb hf
    by_cases hlt : k < ps.length
    · obtain ⟨x, y, hxy⟩ : ∃ x y, ps[k] = ⟨x, y⟩ := ⟨_, _, rfl⟩
      obtain ⟨ad2, hA2, hx, hy⟩ := at_link HPi.out k hlt
      have ht := HTO.out ps[k] (List.getElem_mem hlt)
      have hfs := firstL_drop (dl := dl) (v := v) hlt
      rw [hxy] at hx hy ht hfs
      simp only at hx hy ht hfs
      cases hA2
      obtain ⟨t, rfl⟩ := Int.eq_ofNat_of_zero_le ht.1
      rw [Int.toNat_natCast] at hfs
      have HFS := Lib.hid hfs
      have htl : t < dl.length := by have := ht.2; omega
      clear hxy ht hfs
      go_wp2_with fail
      refine (less_calls _ D V A k0 dl v HDi.out ⟨T, HVi.out⟩ HCi.out t y htl hvl).mono ?_
      rintro e w3 ⟨rfl, hb3⟩
      have HB3 := Lib.hid (HB.out.trans (hb3.mono hzi))
      clear hb3
      by_cases hq : dl.getD t 0 < dl.getD v 0
      · have HR : Hid (firstL dl v ps 0 = (k : Int)) := by unfold Hid; rw [HF.out, HFS.out, if_pos hq]
        rw [decide_eq_true hq]
        clear HFS
        go_wp2_with fail
        go_ret
        exact ⟨by rw [HR.out]; rfl, HB3.out⟩
      · have HR : Hid (firstL dl v ps 0 = firstL dl v (ps.drop (k + 1)) (k + 1)) := by unfold Hid; rw [HF.out, HFS.out, if_neg hq]
        rw [decide_eq_false hq]
        clear HFS
        go_wp2_with fail
        go_roundw
        case rel => exact ⟨k + 1, by omega, by go_num, HR.out, HB3.out⟩
        case measure => simp [intOf]; omega
    · have HE : Hid (firstL dl v ps 0 = -1) := by unfold Hid; rw [HF.out, List.drop_of_length_le (by omega)]; rfl
      go_wp2_with fail
      go_ret
      exact ⟨by rw [HE.out]; rfl, HB.out⟩
end Go.Proofs.Ythapikakneikbaa
/-
  A graph that the world's functions make, in the printed texts' words: its rows are the call's own.
-/
namespace Go.Proofs.YthapikakneikbaaG
open Go.RowKit Go.Proofs.YthapikakneikbaaW.PrintWords
theorem reps_ints {w : World} {base : Nat} {ok : Nat → Prop} (xs : List Int) : Reps ((Kd.int .i64).M w base ok) 1 xs (Go.Proofs.Ythapikakneikbaa.icells xs) := by
  refine ⟨by simp [Go.Proofs.Ythapikakneikbaa.icells], fun j p hj => ?_⟩
  have hl := (List.getElem?_eq_some_iff.1 hj).1
  show _ = [Value.int .i64 p]
  rw [Nat.mul_one, List.take_one, List.head?_drop]
  simp [Go.Proofs.Ythapikakneikbaa.icells, hj]
theorem own_ints {w : World} {B n : Nat} {v : Value} {xs : List Int} (hn : xs.length = n) (h : w.ownsRow B 3 1 v n (Go.Proofs.Ythapikakneikbaa.icells xs)) : Kd.R (Kd.int .i64) 3 w B (fun _ => True) v xs :=
  ⟨fun _ _ => trivial, Go.Proofs.Ythapikakneikbaa.icells xs, by rw [hn]; exact h, reps_ints xs⟩
def ofL (l : Go.Proofs.Ythapikakneikbaa.Link) : S60 := ⟨l.to_, l.wt⟩
theorem reps_links {w : World} {base : Nat} {ok : Nat → Prop} (ps : List Go.Proofs.Ythapikakneikbaa.Link) : Reps (k60.M w base ok) 2 (ps.map ofL) (Go.Proofs.Ythapikakneikbaa.lcells ps) := by
  refine ⟨by rw [Go.Proofs.Ythapikakneikbaa.lcells_length, List.length_map], fun j p hj => ?_⟩
  rw [List.getElem?_map] at hj
  obtain ⟨l, hl, rfl⟩ := Option.map_eq_some_iff.1 hj
  obtain ⟨g0, g1⟩ := Go.Proofs.Ythapikakneikbaa.lcells_get hl
  have : ((Go.Proofs.Ythapikakneikbaa.lcells ps).drop (j * 2)).take 2 = [.int .i64 l.to_, .int .i64 l.wt] := by
    apply List.ext_getElem?
    intro i
    rw [List.getElem?_take]
    match i with
    | 0 => simpa using g0
    | 1 => simpa using g1
    | i + 2 =>
      have : ¬ i + 2 < 2 := by omega
      simp [this]
  rw [this]
  exact k60_mkM w base ok (ofL l)
/-- The rows of links, and the row that leads to them. -/
theorem own_ports {w : World} {B P n : Nat} {vs : List Value} {rows : List (List Go.Proofs.Ythapikakneikbaa.Link)} (hn : rows.length = n) (hm : n ≤ 1000) (h : Go.Proofs.Ythapikakneikbaa.PortsAt w B P vs rows) :
    Kd.S (Kd.slice 60 k60) 52 w B (fun _ => True) (.slice (some ⟨P, 0, none⟩) n n) (rows.map (List.map ofL)) := by
  have hl : vs.length = n := h.rows.len.trans hn
  open Classical in
  refine ⟨fun k => if hk : ∃ (u : Nat) (v : Value), vs[u]? = some v ∧ v.ownBlock = some k then Classical.choose hk else 0, fun _ _ => trivial, vs, ?_, ?_⟩
  · rw [List.length_zipIdx, List.length_map, hn]
    refine ⟨by show vs.length = n * 1; omega, .inr ⟨P, n, vs.toArray, rfl, h.hP, h.blk, Nat.le_refl _, by unfold maxLen; omega, ?_, ?_⟩⟩
    · show vs.toArray.size = n * 1
      simp [hl]
    · show List.take (n * 1) vs.toArray.toList = vs
      rw [Nat.mul_one]
      exact List.take_of_length_le (by simp [hl])
  · refine ⟨by rw [List.length_zipIdx, List.length_map, h.rows.len]; exact (Nat.mul_one _).symm, fun j p hj => ?_⟩
    rw [List.getElem?_zipIdx] at hj
    obtain ⟨r, hr, rfl⟩ := Option.map_eq_some_iff.1 hj
    rw [List.getElem?_map] at hr
    obtain ⟨ps, hps, rfl⟩ := Option.map_eq_some_iff.1 hr
    have hjl := (List.getElem?_eq_some_iff.1 hps).1
    have hv := List.getElem?_eq_getElem (l := vs) (i := j) (by omega)
    generalize vs[j]'(by omega) = v at hv
    have ho := h.rows.own j v ps hv hps
    have hfar := h.far v (List.mem_of_getElem? hv)
    have e1 : (vs.drop (j * (Kd.tag (fun k => if hk : ∃ (u : Nat) (v : Value), vs[u]? = some v ∧ v.ownBlock = some k then Classical.choose hk else 0) (Kd.slice 60 k60)).sz)).take (Kd.tag (fun k => if hk : ∃ (u : Nat) (v : Value), vs[u]? = some v ∧ v.ownBlock = some k then Classical.choose hk else 0) (Kd.slice 60 k60)).sz = [v] := by
      show List.take 1 (List.drop (j * 1) vs) = [v]
      rw [Nat.mul_one, List.take_one, List.head?_drop, hv]
      rfl
    rw [e1]
    refine ⟨v, rfl, fun k hk => ⟨⟨trivial, ?_⟩, ?_⟩, Go.Proofs.Ythapikakneikbaa.lcells ps, by rw [List.length_map]; exact ho, reps_links ps⟩
    · intro e
      rw [hk] at hfar
      exact hfar (e.trans rfl)
    · have hex : ∃ (u : Nat) (v : Value), vs[u]? = some v ∧ v.ownBlock = some k := ⟨j, v, hv, hk⟩
      show (if hk : ∃ (u : Nat) (v : Value), vs[u]? = some v ∧ v.ownBlock = some k then Classical.choose hk else 0) = 0 + j
      rw [dif_pos hex, Nat.zero_add]
      obtain ⟨v', hv', hk'⟩ := Classical.choose_spec hex
      by_cases e : Classical.choose hex = j
      · exact e
      · rcases h.rows.apart _ _ _ _ hv' hv e with h1 | h1
        · rw [hk'] at h1; cases h1
        · exact absurd (hk'.trans hk.symm) h1
end Go.Proofs.YthapikakneikbaaG
/-
  An argument that came in reads as plain data: integers, bools, slices, links, graphs, nets.
-/
namespace Go.Proofs.Ythapikakneikbaa
open Go.RowKit Go.WideShapes Go.ChangeShapes
/-- Whatever reads as data of type t is of kind d. -/
def Opens {α : Type} (t : TypeId) (d : Kd α) : Prop := ∀ (H : Type) (enc : TypeId × Value → H) (W : World) (base : Nat) (spare : Nat → Bool) (held : Bool) (fuel : Nat) (cs : List Value) (x : DataW H × List MemPlace),
  DataW.trod enc Try.prog W base spare held fuel t cs = some x → ∃ a : α, d.K W a cs
theorem opens_int {t : TypeId} {k : IntKind} (ht : Try.prog.underlying t = some (.int k)) : Opens t (Kd.int k) := fun H enc W base spare held fuel cs x h => by
  obtain ⟨n, rfl, _⟩ := DataW.trod_int ht h
  exact ⟨n, rfl⟩
theorem opens_slice {α : Type} {t e : TypeId} {d : Kd α} (ht : Try.prog.underlying t = some (.slice e)) (he : Try.prog.cellsOf e = d.sz) (ho : Opens e d) : Opens t d.slice := fun H enc W base spare held fuel cs x h => by
  rcases Go.Deep.open_slice ht h with ⟨rfl, _⟩ | ⟨a, len, cap, m, n, D, Pl, rfl, _, hl, hm, hmm, _, hx⟩
  · exact ⟨[], _, rfl, none, 0, rfl, Nat.le_refl _, Kd.C_nil _ _ _⟩
  · have hlm : len ≤ m := by rw [hmm]; split <;> omega
    rw [he] at hx
    have each : ∀ i, i < len → ∃ (y : α) (c : List Value), d.K W y c ∧ ∀ (j : Nat) u, c[j]? = some u → W.cell? (a.add (i * d.sz + j)) = some u := fun i hi => by
      obtain ⟨cs', h1, h2⟩ := hx i (by omega)
      obtain ⟨y, hy⟩ := ho _ _ _ _ _ _ _ _ _ h2
      obtain ⟨_, hlen, hcell⟩ := World.cells?_some h1
      refine ⟨y, cs', hy, fun j u hu => ?_⟩
      have hj := (List.getElem?_eq_some_iff.1 hu).1
      rw [← Go.Deep.add_add, hcell j (by omega), hu]
    have mk : ∀ k, k ≤ len → ∃ ys : List α, ys.length = k ∧ ∀ (i : Nat) y, ys[i]? = some y → ∃ c, d.K W y c ∧ ∀ (j : Nat) u, c[j]? = some u → W.cell? (a.add (i * d.sz + j)) = some u := fun k => by
      induction k with
      | zero => exact fun _ => ⟨[], rfl, fun i y h => by simp at h⟩
      | succ k ih =>
        intro hk
        obtain ⟨ys, h1, h2⟩ := ih (by omega)
        obtain ⟨y, c, h3, h4⟩ := each k (by omega)
        refine ⟨ys ++ [y], by simp [h1], fun i z hz => ?_⟩
        by_cases hi : i < k
        · rw [List.getElem?_append_left (by omega)] at hz
          exact h2 i z hz
        · rw [List.getElem?_append_right (by omega), h1] at hz
          cases hik : i - k with
          | succ q => rw [hik] at hz; simp at hz
          | zero =>
            rw [hik] at hz
            obtain rfl : y = z := by simpa using hz
            obtain rfl : i = k := by omega
            exact ⟨c, h3, h4⟩
    obtain ⟨ys, h1, h2⟩ := mk len (Nat.le_refl _)
    subst h1
    exact ⟨ys, _, rfl, some a, cap, rfl, hl, by unfold maxLen at hm; omega, fun _ => ⟨a, rfl, h2⟩⟩
/-- A struct's fields. -/
theorem opens_fields {H : Type} {enc : TypeId × Value → H} {W : World} {base : Nat} {spare : Nat → Bool} {held : Bool} {fuel : Nat} {cs : List Value} {x : DataW H × List MemPlace} {t : TypeId} {fs : Array Field} (ht : Try.prog.underlying t = some (.struct fs)) (h : DataW.trod enc Try.prog W base spare held fuel t cs = some x) :
    cs.length = Try.prog.cellsOf t ∧ ∀ (i : Nat) (f : Field) (α : Type) (d : Kd α) (T : TypeId) (o n : Nat), fs[i]? = some f → f.type = T → f.offset = o → Try.prog.cellsOf T = n → Opens T d → ∃ a : α, d.K W a ((cs.drop o).take n) := by
  obtain ⟨xs, n, _, _, hl, hxl, hf⟩ := DataW.trod_struct ht h
  refine ⟨hl, fun i f α d T o m hi hT ho2 hm ho => ?_⟩
  subst hT ho2 hm
  have h1 := hf i f hi
  have hil := (Array.getElem?_eq_some_iff.1 hi).1
  rw [List.getElem?_eq_getElem (by rw [hxl]; exact hil)] at h1
  exact ho _ _ _ _ _ _ _ _ _ h1
theorem opens_ints : Opens 22 (Kd.int .i64).slice := opens_slice Try.underlying22 (by kernel_rfl) (opens_int Try.underlying3)
theorem opens_conf : Opens 29 kConf.slice := opens_slice Try.underlying29 (by kernel_rfl) opens_ints
theorem opens_link : Opens 60 kLink := fun H enc W base spare held fuel cs x h => by
  obtain ⟨hl, hf⟩ := opens_fields Try.underlying60 h
  obtain ⟨a, ha⟩ := hf 0 _ _ (Kd.int .i64) _ 0 1 rfl rfl rfl (by kernel_rfl) (opens_int Try.underlying3)
  obtain ⟨b, hb⟩ := hf 1 _ _ (Kd.int .i64) _ 1 1 rfl rfl rfl (by kernel_rfl) (opens_int Try.underlying3)
  have c2 : Try.prog.cellsOf 60 = 2 := by kernel_rfl
  rw [c2] at hl
  match cs, hl with
  | [u, v], _ =>
    obtain rfl : u = .int .i64 a := by have h : [u] = [Value.int .i64 a] := ha; simpa using h
    obtain rfl : v = .int .i64 b := by have h : [v] = [Value.int .i64 b] := hb; simpa using h
    exact ⟨⟨a, b⟩, [.int .i64 a], [.int .i64 b], rfl, rfl, rfl⟩
theorem opens_row : Opens 52 kLink.slice := opens_slice Try.underlying52 (by kernel_rfl) opens_link
theorem opens_ports : Opens 25 kLink.slice.slice := opens_slice Try.underlying25 (by kernel_rfl) opens_row
section
variable {H : Type} {enc : TypeId × Value → H} {W : World} {base b0 : Nat} {spare : Nat → Bool} {held : Bool} {r : Reach} {v : Value} {d : DataW H} {p : List MemPlace}
theorem one_slice {α : Type} {k : Kd α} {u : Value} {a : List α} (h : k.slice.K W a [u]) : k.SL W u a := by
  obtain ⟨v, e, hs⟩ := h
  obtain rfl : u = v := by simpa using e
  exact hs
/-- A graph that came in. -/
theorem open_graph (hv : Value.okWide Try.prog W r b0 27 v) (h : DataW.Trod enc Try.prog W base spare held 27 v d p) :
    ∃ (g : Graph) (A0 : Option Addr) (c0 : Nat) (A1 : Option Addr) (c1 : Nat), v = .agg #[.slice A0 g.ids.length c0, .slice A1 g.ports.length c1] ∧ IsGraph W A0 c0 A1 c1 g := by
  obtain ⟨cs, rfl, hsz⟩ := okWide_struct Try.underlying27 hv
  obtain ⟨l⟩ := cs
  obtain ⟨fuel, hf⟩ := h
  obtain ⟨hl, hg⟩ := opens_fields Try.underlying27 hf
  obtain ⟨ids, h0⟩ := hg 0 _ _ (Kd.int .i64).slice _ 0 1 rfl rfl rfl (by kernel_rfl) opens_ints
  obtain ⟨ports, h1⟩ := hg 1 _ _ kLink.slice.slice _ 1 1 rfl rfl rfl (by kernel_rfl) opens_ports
  have c3 : Try.prog.cellsOf 27 = 2 := by kernel_rfl
  rw [c3] at hl
  have hl' : l.length = 2 := hl
  match l, hl' with
  | [u0, u1], _ =>
    obtain ⟨A0, k0, rfl, m0, q0⟩ := one_slice (u := u0) h0
    obtain ⟨A1, k1, rfl, m1, q1⟩ := one_slice (u := u1) h1
    exact ⟨⟨ids, ports⟩, A0, k0, A1, k1, rfl, ⟨q0, m0, q1, m1⟩⟩
/-- A list of numbers, a configuration that came in. -/
theorem open_list {t : TypeId} {α : Type} {k : Kd α} (ho : Opens t k.slice) (ht : ∃ e, Try.prog.underlying t = some (.slice e)) (hv : Value.okWide Try.prog W r b0 t v) (h : DataW.Trod enc Try.prog W base spare held t v d p) : ∃ xs, k.SL W v xs := by
  obtain ⟨e, ht⟩ := ht
  obtain ⟨a, len, cap, rfl⟩ := okWide_slice ht hv
  obtain ⟨fuel, hf⟩ := h
  obtain ⟨xs, hx⟩ := ho _ _ _ _ _ _ _ _ _ hf
  exact ⟨xs, one_slice hx⟩
end
end Go.Proofs.Ythapikakneikbaa
/-
  From the words on memory of the texts written by hand to those of the printed texts: what came in.
-/
namespace Go.Proofs.YthapikakneikbaaG
open Go.RowKit
structure Bk {α β : Type} (d' : HKd β) (d : PKd α) (f : β → α) : Prop where
  sz : d.sz = d'.sz
  K : ∀ {w : World} {x : β} {c : List Value}, d'.K w x c → d.K w (f x) c
theorem Bk.C {α β : Type} {d : PKd α} {d' : HKd β} {f : β → α} (b : Bk d' d f) {w : World} {A : Option Addr} {xs : List β} (h : Go.Proofs.Ythapikakneikbaa.Kd.C d' w A xs) : Go.Proofs.YthapikakneikbaaW.PrintWords.Kd.C d w A xs.length (xs.map f) := by
  obtain ⟨hm, hc⟩ := h
  refine ⟨by simp, hm, fun h0 => ?_⟩
  obtain ⟨ad, e, hr⟩ := hc h0
  refine ⟨ad, e, fun j y hy => ?_⟩
  rw [List.getElem?_map] at hy
  obtain ⟨x, hx, rfl⟩ := Option.map_eq_some_iff.1 hy
  obtain ⟨c, hK, hcell⟩ := hr j x hx
  rw [← b.sz] at hcell
  exact ⟨c, d.K_len (b.K hK), b.K hK, hcell⟩
theorem Bk.int (k : IntKind) : Bk (Go.Proofs.Ythapikakneikbaa.Kd.int k) (Go.Proofs.YthapikakneikbaaW.PrintWords.Kd.int k) id := ⟨rfl, fun h => h⟩
theorem Bk.slice {α β : Type} {d : PKd α} {d' : HKd β} {f : β → α} (b : Bk d' d f) (e : Nat) : Bk d'.slice (Go.Proofs.YthapikakneikbaaW.PrintWords.Kd.slice e d) (List.map f) := ⟨rfl, fun h => by
  obtain ⟨v, rfl, A, c, rfl, hl, hC⟩ := h
  exact ⟨A, c, by rw [List.length_map], by simpa using hl, by simpa using b.C hC⟩⟩
theorem Bk.link : Bk Go.Proofs.Ythapikakneikbaa.kLink k60 ofL := ⟨rfl, fun h => h⟩
theorem B_ints {w : World} {k : IntKind} {A : Option Addr} {xs : List Int} (h : (Go.Proofs.Ythapikakneikbaa.Kd.int k).C w A xs) : Go.Proofs.YthapikakneikbaaW.PrintWords.Kd.C (Go.Proofs.YthapikakneikbaaW.PrintWords.Kd.int k) w A xs.length xs := by
  have := (Bk.int k).C h
  rwa [List.map_id] at this
theorem B_conf {w : World} {A : Option Addr} {c : List (List Int)} (h : Go.Proofs.Ythapikakneikbaa.kConf.C w A c) : Go.Proofs.YthapikakneikbaaW.PrintWords.Kd.C (Go.Proofs.YthapikakneikbaaW.PrintWords.Kd.slice 3 (Go.Proofs.YthapikakneikbaaW.PrintWords.Kd.int .i64)) w A c.length c := by
  have := ((Bk.int .i64).slice 3).C h
  simpa using this
theorem B_ports {w : World} {A : Option Addr} {p : List (List Go.Proofs.Ythapikakneikbaa.Link)} (h : Go.Proofs.Ythapikakneikbaa.kLink.slice.C w A p) : Go.Proofs.YthapikakneikbaaW.PrintWords.Kd.C (Go.Proofs.YthapikakneikbaaW.PrintWords.Kd.slice 60 k60) w A (p.map (List.map ofL)).length (p.map (List.map ofL)) := by
  have := (Bk.link.slice 60).C h
  rw [List.length_map]
  exact this
end Go.Proofs.YthapikakneikbaaG
namespace Go.Proofs.YthapikakneikbaaG
open Go.RowKit Go.Proofs.YthapikakneikbaaW.PrintWords Go.Proofs.YthapikakneikbaaW.PrintLast Go.Proofs.YthapikakneikbaaW.PrintMore
attribute [local go_sem] max2_int min2_int max_two min_two max_three min_three max_four min_four   -- for this text's walks alone
set_option linter.unusedVariables false
set_option linter.unusedSimpArgs false
def slices_Index_int_int.l0 : Nat → List Int → Int → Int → Int → Option (Int)
 | 0, _, _, _, _ => none
 | k + 1, x0, x1, x7, x8 => if x8 < x7 then (if 0 ≤ x8 then (if x8 < (x0.length : Int) then (if x1 = (rd x0 x8) then (some x8) else (slices_Index_int_int.l0 k x0 x1 x7 (wrap64 (x8 + 1)))) else (none)) else (none)) else (some (-1))
def slices_Index_int_int.f (k : Nat) (l0 : List Int) (a1 : Int) : Option (Int) := slices_Index_int_int.l0 k l0 a1 (l0.length : Int) 0
theorem slices_Index_int_int.mono_l : ∀ k, (∀ y0 y1 y2 y3, LeO (slices_Index_int_int.l0 k y0 y1 y2 y3) (slices_Index_int_int.l0 (k + 1) y0 y1 y2 y3))
 | 0 => fun _ _ _ _ r h => by simp [slices_Index_int_int.l0] at h
 | k + 1 => by
  have ih0 := slices_Index_int_int.mono_l k
  ·
   intro y0 y1 y2 y3
   unfold slices_Index_int_int.l0
   repeat' first
   | (with_reducible exact ih0 _ _ _ _)
   | (with_reducible exact LeO.refl _)
   | (with_reducible exact LeO.none _)
   | (with_reducible refine LeO.ite ?_ ?_)
   | (with_reducible refine LeO.bind ?_ (fun _ => ?_))
   | exact ih0 _ _ _ _
   | exact LeO.none _
   | refine LeO.ite ?_ ?_
   | refine LeO.bind ?_ (fun _ => ?_)
theorem slices_Index_int_int.mono : ∀ a0 a1 k, LeO (slices_Index_int_int.f k a0 a1) (slices_Index_int_int.f (k + 1) a0 a1) := by
 intro a0 a1 k
 have ih0 := slices_Index_int_int.mono_l k
 unfold slices_Index_int_int.f
 repeat' first
   | (with_reducible exact ih0 _ _ _ _)
   | (with_reducible exact LeO.refl _)
   | (with_reducible exact LeO.none _)
   | (with_reducible refine LeO.ite ?_ ?_)
   | (with_reducible refine LeO.bind ?_ (fun _ => ?_))
   | exact ih0 _ _ _ _
   | exact LeO.none _
   | refine LeO.ite ?_ ?_
   | refine LeO.bind ?_ (fun _ => ?_)
set_option maxHeartbeats 8000000 in
set_option maxRecDepth 100000 in
theorem slices_Index_int_int.calls (k : Nat) (A0 : Option Addr) (c0 : Nat) (l0 : List Int) (a1 : Int) (r : Int) (w : World) (hr0 : Kd.C (Kd.int .i64) w A0 l0.length l0) (hc0 : l0.length ≤ c0) (h : slices_Index_int_int.f k l0 a1 = some r) :
  Calls Try.prog 126 #[.slice A0 l0.length c0, .int .i64 a1] w fun e w' => e = .returned (.int .i64 r) ∧ Drawn0 w w' := by
 have HR0 := Aside0.mk hr0
 have HC0 := Aside0.mk hc0
 clear hr0 hc0
 have H : (slices_Index_int_int.l0 k l0 a1 (l0.length : Int) 0) = some r := h
 clear h
 have H' := Aside0.mk H
 clear H
 go_enter Try.func126, Try.ntmps126
 go_wp2
 go_loopg [8] k (fun kq v8 w' => ∃ (x8_1 : Int), v8 = .int .i64 x8_1 ∧ Aside0 (slices_Index_int_int.l0 kq l0 a1 (l0.length : Int) x8_1 = some r) ∧ Aside0 (kq ≤ k) ∧ Drawn0 w w')
 case atStart => exact ⟨(0), (by first | rfl | (simp; done) | (simp [*]; done)), H', ⟨Nat.le_refl _⟩, by repeat (first | exact Drawn0.refl _ | apply Drawn0.step)⟩
 case round =>
  clear H'
  try clear c1
  try clear p2
  obtain ⟨x8_1, rfl, HA, HK1, ⟨m1, rfl⟩⟩ := hrel
  cases gk with
  | zero => exact absurd HA.out (by simp [slices_Index_int_int.l0])
  | succ k1 =>
   have H := HA.out
   clear HA
   simp only [slices_Index_int_int.l0] at H
   by_cases c3 : x8_1 < (l0.length : Int)
   ·
    rw [if_pos c3] at H
    have c3b0 : decide (x8_1 < (l0.length : Int)) = true := decide_eq_true c3
    clear c3
    by_cases c4 : 0 ≤ x8_1
    ·
     rw [if_pos c4] at H
     have c4b0 : decide (0 ≤ x8_1) = true := decide_eq_true c4
     clear c4
     by_cases c5 : x8_1 < (l0.length : Int)
     ·
      rw [if_pos c5] at H
      have c5b0 : decide (x8_1 < (l0.length : Int)) = true := decide_eq_true c5
      clear c5
      by_cases c6 : a1 = (rd l0 x8_1)
      ·
       rw [if_pos c6] at H
       have c6b0 : (a1 == (rd l0 x8_1)) = true := beq_iff_eq.mpr c6
       have c6b1 : (a1 != (rd l0 x8_1)) = false := bne_eq_false_iff_eq.mpr c6
       clear c6
       obtain rfl := Option.some.inj H
       have p663 : 0 ≤ (x8_1 : Int) := of_decide_eq_true (by first | (with_reducible assumption) | assumption)
       have q663 : x8_1 < (l0.length : Int) := of_decide_eq_true (by first | (with_reducible assumption) | assumption)
       obtain ⟨ad663, e663, hx663_0⟩ := Kd.at_int HR0.out x8_1 p663 q663
       cases e663
       replace p663 := eq_true p663
       replace q663 := eq_true q663
       go_wp2
       go_ret
       exact ⟨by first | rfl | (simp; done) | (simp [*]; done), by repeat (first | exact Drawn0.refl _ | apply Drawn0.step)⟩
      ·
       rw [if_neg c6] at H
       have c6b0 : (a1 == (rd l0 x8_1)) = false := beq_eq_false_iff_ne.mpr c6
       have c6b1 : (a1 != (rd l0 x8_1)) = true := bne_iff_ne.mpr c6
       have H' := Aside0.mk H
       clear H
       have p663 : 0 ≤ (x8_1 : Int) := of_decide_eq_true (by first | (with_reducible assumption) | assumption)
       have q663 : x8_1 < (l0.length : Int) := of_decide_eq_true (by first | (with_reducible assumption) | assumption)
       obtain ⟨ad663, e663, hx663_0⟩ := Kd.at_int HR0.out x8_1 p663 q663
       cases e663
       replace p663 := eq_true p663
       replace q663 := eq_true q663
       go_wp2
       go_roundg k1
       case measure => have := HK1.out; omega
       case rel => exact ⟨(wrap64 (x8_1 + 1)), (by first | rfl | (simp; done) | (simp [*]; done)), H', ⟨by have := HK1.out; omega⟩, by repeat (first | exact Drawn0.refl _ | apply Drawn0.step)⟩
     ·
      rw [if_neg c5] at H
      exact absurd H (by simp)
    ·
     rw [if_neg c4] at H
     exact absurd H (by simp)
   ·
    rw [if_neg c3] at H
    have c3b0 : decide (x8_1 < (l0.length : Int)) = false := decide_eq_false c3
    clear c3
    obtain rfl := Option.some.inj H
    go_wp2
    go_ret
    exact ⟨by first | rfl | (simp; done) | (simp [*]; done), by repeat (first | exact Drawn0.refl _ | apply Drawn0.step)⟩
end Go.Proofs.YthapikakneikbaaG
/-
  slices.Min over a list of integers that is not empty.
-/
namespace Go.Proofs.Ythapikakneikbaa
open Go.RowKit
def minTo (l : List Int) (k : Nat) : Int := (l.take k).foldl (fun m x => if x < m then x else m) (l.getD 0 0)
def minL (l : List Int) : Int := l.foldl (fun m x => if x < m then x else m) (l.getD 0 0)
theorem minTo_succ {l : List Int} {k : Nat} (h : k < l.length) : minTo l (k + 1) = if l[k] < minTo l k then l[k] else minTo l k := by
  unfold minTo
  rw [List.take_succ_eq_append_getElem h, List.foldl_append]
  rfl
theorem minTo_one {l : List Int} (h : 0 < l.length) : minTo l 1 = l[0] := by
  rw [minTo_succ h]
  have : minTo l 0 = l[0] := by
    unfold minTo
    rw [List.take_zero, List.getD_eq_getElem?_getD, List.getElem?_eq_getElem h]
    rfl
  rw [this, if_neg (by omega)]
set_option maxHeartbeats 1000000 in
theorem min_calls (w : World) (A : Option Addr) (c : Nat) (l : List Int) (hl : (Kd.int .i64).C w A l) (h0 : 0 < l.length) :
    Calls Try.prog 127 #[.slice A l.length c] w fun e w' => e = .returned (.int .i64 (minL l)) ∧ w = w' := by
  have HL := Lib.hid hl
  have hlm := Kd.C_max hl
  obtain ⟨ad, hA, hcell⟩ := Kd.at_int hl 0 h0
  have H1 := Lib.hid (minTo_one h0)
  generalize l[0] = y at hcell H1
  cases hA
  have hc0 : w.cell? ad = some (.int .i64 y) := by simpa [Addr.add] using hcell
  clear hl hcell
  go_enter Try.func127, Try.ntmps127
  have t0 : decide ((l.length : Int) < 1) = false := by simp; omega
  go_wp2_with fail
  go_loop [3, 4] (fun m i => ∃ k : Nat, 1 ≤ k ∧ k ≤ l.length ∧ i = .int .i64 k ∧ m = .int .i64 (minTo l k)) (fun _ i => l.length - (intOf i).toNat)
  case atStart => exact ⟨1, by omega, by omega, rfl, by rw [H1.out]⟩
  case round =>
    obtain ⟨k, hk1, hk, rfl, rfl⟩ := hrel
    by_cases hlt : k < l.length
    · obtain ⟨ad2, hA2, hck⟩ := Kd.at_int HL.out k hlt
      cases hA2
      have HS := Lib.hid (minTo_succ hlt)
      generalize l[k] = z at hck HS
      generalize minTo l k = m at HS ⊢
      by_cases hz : z < m
      · have hz2 : ¬ m < z := by omega
        have HZ : Hid (minTo l (k + 1) = z) := by unfold Hid; rw [HS.out, if_pos hz]
        go_wp2_with fail
        go_round
        case rel => exact ⟨k + 1, by omega, by omega, by go_num, by rw [HZ.out]⟩
        case measure => simp [intOf]; omega
      · have HZ : Hid (minTo l (k + 1) = m) := by unfold Hid; rw [HS.out, if_neg hz]
        go_wp2_with fail
        go_round
        case rel => exact ⟨k + 1, by omega, by omega, by go_num, by rw [HZ.out]⟩
        case measure => simp [intOf]; omega
    · have HE : Hid (minTo l k = minL l) := by unfold Hid minTo minL; rw [List.take_of_length_le (by omega)]
      go_wp2_with fail
      go_ret
      exact ⟨by rw [← HE.out]; rfl, rfl⟩
end Go.Proofs.Ythapikakneikbaa
/-
  As Bridge, beside the contract of slices.Min.
-/
namespace Go.Proofs.YthapikakneikbaaG
open Go.RowKit Go.Proofs.YthapikakneikbaaW.PrintWords Go.Proofs.YthapikakneikbaaW.PrintLast Go.Proofs.YthapikakneikbaaW.PrintMore
attribute [local go_sem] max2_int min2_int max_two min_two max_three min_three max_four min_four   -- for this text's walks alone
set_option linter.unusedVariables false
set_option linter.unusedSimpArgs false
def slices_Min_int_int.f (l0 : List Int) : Option (Int) := if 0 < l0.length then some (Go.Proofs.Ythapikakneikbaa.minL l0) else none
theorem slices_Min_int_int.calls (A0 : Option Addr) (c0 : Nat) (l0 : List Int) (r : Int) (w : World) (hr0 : Kd.C (Kd.int .i64) w A0 l0.length l0) (hc0 : l0.length ≤ c0) (h : slices_Min_int_int.f l0 = some r) :
  Calls Try.prog 127 #[.slice A0 l0.length c0] w fun e w' => e = .returned (.int .i64 r) ∧ Drawn0 w w' := by
 unfold slices_Min_int_int.f at h
 by_cases hm : 0 < l0.length
 ·
  rw [if_pos hm] at h
  injection h with h
  subst h
  refine (Go.Proofs.Ythapikakneikbaa.min_calls w A0 c0 l0 (C_ints hr0) hm).mono ?_
  rintro e w' ⟨rfl, rfl⟩
  exact ⟨rfl, ⟨⟨0, rfl⟩⟩⟩
 ·
  rw [if_neg hm] at h
  cases h
end Go.Proofs.YthapikakneikbaaG
namespace Go.Proofs.YthapikakneikbaaG
open Go.RowKit Go.Proofs.YthapikakneikbaaW.PrintWords Go.Proofs.YthapikakneikbaaW.PrintLast Go.Proofs.YthapikakneikbaaW.PrintMore
attribute [local go_sem] max2_int min2_int max_two min_two max_three min_three max_four min_four   -- for this text's walks alone
set_option linter.unusedVariables false
set_option linter.unusedSimpArgs false
def leader_least.f (k : Nat) (l0_0 : List Int) (l0_1 : List (List (S60))) : Option (Int) := (slices_Min_int_int.f l0_0).bind fun t665 => ((slices_Index_int_int.f k l0_0 t665).bind fun t666 => (some t666))
theorem leader_least.mono : ∀ a0 a1 k, LeO (leader_least.f k a0 a1) (leader_least.f (k + 1) a0 a1) := by
 intro a0 a1 k
 unfold leader_least.f
 repeat' first
   | (with_reducible exact slices_Index_int_int.mono _ _ _)
   | (with_reducible exact LeO.refl _)
   | (with_reducible exact LeO.none _)
   | (with_reducible refine LeO.ite ?_ ?_)
   | (with_reducible refine LeO.bind ?_ (fun _ => ?_))
   | exact slices_Index_int_int.mono _ _ _
   | exact LeO.none _
   | refine LeO.ite ?_ ?_
   | refine LeO.bind ?_ (fun _ => ?_)
set_option maxHeartbeats 8000000 in
set_option maxRecDepth 100000 in
theorem leader_least.calls (k : Nat) (A0_0 : Option Addr) (c0_0 : Nat) (l0_0 : List Int) (A0_1 : Option Addr) (c0_1 : Nat) (l0_1 : List (List (S60))) (r : Int) (w : World) (hr0_0 : Kd.C (Kd.int .i64) w A0_0 l0_0.length l0_0) (hc0_0 : l0_0.length ≤ c0_0) (hr0_1 : Kd.C (Kd.slice 60 k60) w A0_1 l0_1.length l0_1) (hc0_1 : l0_1.length ≤ c0_1) (h : leader_least.f k l0_0 l0_1 = some r) :
  Calls Try.prog 99 #[.agg #[.slice A0_0 l0_0.length c0_0, .slice A0_1 l0_1.length c0_1]] w fun e w' => e = .returned (.int .i64 r) ∧ Below w.heap.size w w' := by
 have hu27 := Try.underlying27
 have HR0_0 := Aside0.mk hr0_0
 have HC0_0 := Aside0.mk hc0_0
 clear hr0_0 hc0_0
 have HR0_1 := Aside0.mk hr0_1
 have HC0_1 := Aside0.mk hc0_1
 clear hr0_1 hc0_1
 have HB := Aside0.mk (Below.refl w.heap.size w)
 have H : ((slices_Min_int_int.f l0_0).bind fun t665 => ((slices_Index_int_int.f k l0_0 t665).bind fun t666 => (some t666))) = some r := h
 clear h
 replace H := Option.bind_eq_some_iff.mp H
 obtain ⟨t665, A20, H⟩ := H
 replace H : ((slices_Index_int_int.f k l0_0 t665).bind fun t666 => (some t666)) = some r := H
 have A2 := Aside0.mk A20
 clear A20
 replace H := Option.bind_eq_some_iff.mp H
 obtain ⟨t666, A30, H⟩ := H
 replace H : (some t666) = some r := H
 have A3 := Aside0.mk A30
 clear A30
 obtain rfl := Option.some.inj H
 go_enter Try.func99, Try.ntmps99
 go_wp2_with (first | ((with_reducible refine gate_dst (N := 1) rfl ?_); refine box_event ?hg (N := 1) ?hd (cs := #[.slice A0_0 l0_0.length c0_0, .slice A0_1 l0_1.length c0_1]) (t := 27) ?hr ?_; (case hd => rfl); (case hg => rfl); (case hr => first | (go_simp; done) | (go_simp; rfl)); intro gb664 hg w4 hbox hb; have n0_ := Aside0.mk (below_step (by repeat (first | (with_reducible first | exact HB.out | apply below_alloc | apply pw_below_drewN | apply below_drew1) | exact HB.out)) hb); have n1_ := Aside0.mk (hbox); have n2_ := Aside0.mk ((by rw [hg]; exact (below_size (by repeat (first | (with_reducible first | exact HB.out | apply below_alloc | apply pw_below_drewN | apply below_drew1) | exact HB.out))) : w.heap.size ≤ gb664)); have n3_ := Aside0.mk ((by rw [hg]; exact (below_size (by repeat (first | (with_reducible first | exact HB.out | apply below_alloc | apply pw_below_drewN | apply below_drew1) | exact HB.out))) : w.heap.size ≤ gb664)); clear HB; have HB := n0_; have BK664 := n1_; have GW664 := n2_; have GE664 := n3_; clear n0_ n1_ n2_ n3_; clear hb hbox hg; have hcz5_0 : w4.cell? ⟨gb664, 0, none⟩ = some (.slice A0_0 l0_0.length c0_0) := (blk_cell BK664.out 0).trans rfl; have hcz5_1 : w4.cell? ⟨gb664, 1, none⟩ = some (.slice A0_1 l0_1.length c0_1) := (blk_cell BK664.out 1).trans rfl; have hfz5_0 := blk_frozen BK664.out 0; have hfz5_1 := blk_frozen BK664.out 1) | (go_at_call 127; (with_reducible refine (slices_Min_int_int.calls _ _ l0_0 t665 _ ?side1 ?side2 A2.out).mono ?_); (case side1 => repeat (first | exact (Kd.C_below HR0_0.out HB.out) | (with_reducible refine Kd.C_alloc ?_ _) | (with_reducible refine Kd.C_drewN ?_ _) | (with_reducible refine Kd.C_drew ?_))); (case side2 => exact HC0_0.out); rintro e w' ⟨rfl, ⟨nd, rfl⟩⟩; (try first | exact ⟨rfl, _, World.drewN_drewN _ _ _⟩ | exact ⟨rfl, _, Eq.trans (World.drewN_drewN _ _ _) (congrArg (World.drewN _) (Nat.add_assoc _ _ _))⟩)) | (go_at_call 126; (with_reducible refine (slices_Index_int_int.calls k _ _ l0_0 t665 t666 _ ?side1 ?side2 A3.out).mono ?_); (case side1 => repeat (first | exact (Kd.C_below HR0_0.out (by repeat (first | (with_reducible first | exact HB.out | apply below_alloc | apply pw_below_drewN | apply below_drew1 | refine below_set ?_ GE664.out) | exact HB.out))) | (with_reducible refine Kd.C_alloc ?_ _) | (with_reducible refine Kd.C_drewN ?_ _) | (with_reducible refine Kd.C_drew ?_))); (case side2 => exact HC0_0.out); rintro e w' ⟨rfl, ⟨nd, rfl⟩⟩; (try first | exact ⟨rfl, _, World.drewN_drewN _ _ _⟩ | exact ⟨rfl, _, Eq.trans (World.drewN_drewN _ _ _) (congrArg (World.drewN _) (Nat.add_assoc _ _ _))⟩)))
 repeat (go_quiet (first | ((with_reducible refine gate_dst (N := 1) rfl ?_); refine box_event ?hg (N := 1) ?hd (cs := #[.slice A0_0 l0_0.length c0_0, .slice A0_1 l0_1.length c0_1]) (t := 27) ?hr ?_; (case hd => rfl); (case hg => rfl); (case hr => first | (go_simp; done) | (go_simp; rfl)); intro gb664 hg w4 hbox hb; have n0_ := Aside0.mk (below_step (by repeat (first | (with_reducible first | exact HB.out | apply below_alloc | apply pw_below_drewN | apply below_drew1) | exact HB.out)) hb); have n1_ := Aside0.mk (hbox); have n2_ := Aside0.mk ((by rw [hg]; exact (below_size (by repeat (first | (with_reducible first | exact HB.out | apply below_alloc | apply pw_below_drewN | apply below_drew1) | exact HB.out))) : w.heap.size ≤ gb664)); have n3_ := Aside0.mk ((by rw [hg]; exact (below_size (by repeat (first | (with_reducible first | exact HB.out | apply below_alloc | apply pw_below_drewN | apply below_drew1) | exact HB.out))) : w.heap.size ≤ gb664)); clear HB; have HB := n0_; have BK664 := n1_; have GW664 := n2_; have GE664 := n3_; clear n0_ n1_ n2_ n3_; clear hb hbox hg; have hcz5_0 : w4.cell? ⟨gb664, 0, none⟩ = some (.slice A0_0 l0_0.length c0_0) := (blk_cell BK664.out 0).trans rfl; have hcz5_1 : w4.cell? ⟨gb664, 1, none⟩ = some (.slice A0_1 l0_1.length c0_1) := (blk_cell BK664.out 1).trans rfl; have hfz5_0 := blk_frozen BK664.out 0; have hfz5_1 := blk_frozen BK664.out 1) | (go_at_call 127; (with_reducible refine (slices_Min_int_int.calls _ _ l0_0 t665 _ ?side1 ?side2 A2.out).mono ?_); (case side1 => repeat (first | exact (Kd.C_below HR0_0.out HB.out) | (with_reducible refine Kd.C_alloc ?_ _) | (with_reducible refine Kd.C_drewN ?_ _) | (with_reducible refine Kd.C_drew ?_))); (case side2 => exact HC0_0.out); rintro e w' ⟨rfl, ⟨nd, rfl⟩⟩; (try first | exact ⟨rfl, _, World.drewN_drewN _ _ _⟩ | exact ⟨rfl, _, Eq.trans (World.drewN_drewN _ _ _) (congrArg (World.drewN _) (Nat.add_assoc _ _ _))⟩)) | (go_at_call 126; (with_reducible refine (slices_Index_int_int.calls k _ _ l0_0 t665 t666 _ ?side1 ?side2 A3.out).mono ?_); (case side1 => repeat (first | exact (Kd.C_below HR0_0.out (by repeat (first | (with_reducible first | exact HB.out | apply below_alloc | apply pw_below_drewN | apply below_drew1 | refine below_set ?_ GE664.out) | exact HB.out))) | (with_reducible refine Kd.C_alloc ?_ _) | (with_reducible refine Kd.C_drewN ?_ _) | (with_reducible refine Kd.C_drew ?_))); (case side2 => exact HC0_0.out); rintro e w' ⟨rfl, ⟨nd, rfl⟩⟩; (try first | exact ⟨rfl, _, World.drewN_drewN _ _ _⟩ | exact ⟨rfl, _, Eq.trans (World.drewN_drewN _ _ _) (congrArg (World.drewN _) (Nat.add_assoc _ _ _))⟩))); try go_wp2_with (first | ((with_reducible refine gate_dst (N := 1) rfl ?_); refine box_event ?hg (N := 1) ?hd (cs := #[.slice A0_0 l0_0.length c0_0, .slice A0_1 l0_1.length c0_1]) (t := 27) ?hr ?_; (case hd => rfl); (case hg => rfl); (case hr => first | (go_simp; done) | (go_simp; rfl)); intro gb664 hg w4 hbox hb; have n0_ := Aside0.mk (below_step (by repeat (first | (with_reducible first | exact HB.out | apply below_alloc | apply pw_below_drewN | apply below_drew1) | exact HB.out)) hb); have n1_ := Aside0.mk (hbox); have n2_ := Aside0.mk ((by rw [hg]; exact (below_size (by repeat (first | (with_reducible first | exact HB.out | apply below_alloc | apply pw_below_drewN | apply below_drew1) | exact HB.out))) : w.heap.size ≤ gb664)); have n3_ := Aside0.mk ((by rw [hg]; exact (below_size (by repeat (first | (with_reducible first | exact HB.out | apply below_alloc | apply pw_below_drewN | apply below_drew1) | exact HB.out))) : w.heap.size ≤ gb664)); clear HB; have HB := n0_; have BK664 := n1_; have GW664 := n2_; have GE664 := n3_; clear n0_ n1_ n2_ n3_; clear hb hbox hg; have hcz5_0 : w4.cell? ⟨gb664, 0, none⟩ = some (.slice A0_0 l0_0.length c0_0) := (blk_cell BK664.out 0).trans rfl; have hcz5_1 : w4.cell? ⟨gb664, 1, none⟩ = some (.slice A0_1 l0_1.length c0_1) := (blk_cell BK664.out 1).trans rfl; have hfz5_0 := blk_frozen BK664.out 0; have hfz5_1 := blk_frozen BK664.out 1) | (go_at_call 127; (with_reducible refine (slices_Min_int_int.calls _ _ l0_0 t665 _ ?side1 ?side2 A2.out).mono ?_); (case side1 => repeat (first | exact (Kd.C_below HR0_0.out HB.out) | (with_reducible refine Kd.C_alloc ?_ _) | (with_reducible refine Kd.C_drewN ?_ _) | (with_reducible refine Kd.C_drew ?_))); (case side2 => exact HC0_0.out); rintro e w' ⟨rfl, ⟨nd, rfl⟩⟩; (try first | exact ⟨rfl, _, World.drewN_drewN _ _ _⟩ | exact ⟨rfl, _, Eq.trans (World.drewN_drewN _ _ _) (congrArg (World.drewN _) (Nat.add_assoc _ _ _))⟩)) | (go_at_call 126; (with_reducible refine (slices_Index_int_int.calls k _ _ l0_0 t665 t666 _ ?side1 ?side2 A3.out).mono ?_); (case side1 => repeat (first | exact (Kd.C_below HR0_0.out (by repeat (first | (with_reducible first | exact HB.out | apply below_alloc | apply pw_below_drewN | apply below_drew1 | refine below_set ?_ GE664.out) | exact HB.out))) | (with_reducible refine Kd.C_alloc ?_ _) | (with_reducible refine Kd.C_drewN ?_ _) | (with_reducible refine Kd.C_drew ?_))); (case side2 => exact HC0_0.out); rintro e w' ⟨rfl, ⟨nd, rfl⟩⟩; (try first | exact ⟨rfl, _, World.drewN_drewN _ _ _⟩ | exact ⟨rfl, _, Eq.trans (World.drewN_drewN _ _ _) (congrArg (World.drewN _) (Nat.add_assoc _ _ _))⟩))))
 go_ret
 exact ⟨by first | rfl | (simp [errW_none, errW_some] <;> rfl) | (simp [*, errW_none, errW_some] <;> rfl), by repeat (first | (with_reducible first | exact HB.out | apply below_alloc | apply pw_below_drewN | apply below_drew1 | refine below_set ?_ GE664.out) | exact HB.out)⟩
end Go.Proofs.YthapikakneikbaaG
namespace Go.Proofs.YthapikakneikbaaG
open Go.RowKit Go.Proofs.YthapikakneikbaaW.PrintWords Go.Proofs.YthapikakneikbaaW.PrintLast Go.Proofs.YthapikakneikbaaW.PrintMore
attribute [local go_sem] max2_int min2_int max_two min_two max_three min_three max_four min_four   -- for this text's walks alone
set_option linter.unusedVariables false
set_option linter.unusedSimpArgs false
def shape_Greatest.l0 : Nat → Int → List Int → Int → Int → Option (Int)
 | 0, _, _, _, _ => none
 | k + 1, x3, x7, x8, x9 => if x9 < x8 then (if 0 ≤ x9 then (if x9 < (x7.length : Int) then (shape_Greatest.l0 k (mx x3 (rd x7 x9)) x7 x8 (wrap64 (x9 + 1))) else (none)) else (none)) else (some x3)
def shape_Greatest.f (k : Nat) (l0_0 : List Int) (l0_1 : List (List (S60))) : Option (Int) := shape_Greatest.l0 k 0 l0_0 (l0_0.length : Int) 0
theorem shape_Greatest.mono_l : ∀ k, (∀ y0 y1 y2 y3, LeO (shape_Greatest.l0 k y0 y1 y2 y3) (shape_Greatest.l0 (k + 1) y0 y1 y2 y3))
 | 0 => fun _ _ _ _ r h => by simp [shape_Greatest.l0] at h
 | k + 1 => by
  have ih0 := shape_Greatest.mono_l k
  ·
   intro y0 y1 y2 y3
   unfold shape_Greatest.l0
   repeat' first
   | (with_reducible exact ih0 _ _ _ _)
   | (with_reducible exact LeO.refl _)
   | (with_reducible exact LeO.none _)
   | (with_reducible refine LeO.ite ?_ ?_)
   | (with_reducible refine LeO.bind ?_ (fun _ => ?_))
   | exact ih0 _ _ _ _
   | exact LeO.none _
   | refine LeO.ite ?_ ?_
   | refine LeO.bind ?_ (fun _ => ?_)
theorem shape_Greatest.mono : ∀ a0 a1 k, LeO (shape_Greatest.f k a0 a1) (shape_Greatest.f (k + 1) a0 a1) := by
 intro a0 a1 k
 have ih0 := shape_Greatest.mono_l k
 unfold shape_Greatest.f
 repeat' first
   | (with_reducible exact ih0 _ _ _ _)
   | (with_reducible exact LeO.refl _)
   | (with_reducible exact LeO.none _)
   | (with_reducible refine LeO.ite ?_ ?_)
   | (with_reducible refine LeO.bind ?_ (fun _ => ?_))
   | exact ih0 _ _ _ _
   | exact LeO.none _
   | refine LeO.ite ?_ ?_
   | refine LeO.bind ?_ (fun _ => ?_)
set_option maxHeartbeats 8000000 in
set_option maxRecDepth 100000 in
theorem shape_Greatest.calls (k : Nat) (A0_0 : Option Addr) (c0_0 : Nat) (l0_0 : List Int) (A0_1 : Option Addr) (c0_1 : Nat) (l0_1 : List (List (S60))) (r : Int) (w : World) (hr0_0 : Kd.C (Kd.int .i64) w A0_0 l0_0.length l0_0) (hc0_0 : l0_0.length ≤ c0_0) (hr0_1 : Kd.C (Kd.slice 60 k60) w A0_1 l0_1.length l0_1) (hc0_1 : l0_1.length ≤ c0_1) (h : shape_Greatest.f k l0_0 l0_1 = some r) :
  Calls Try.prog 98 #[.agg #[.slice A0_0 l0_0.length c0_0, .slice A0_1 l0_1.length c0_1]] w fun e w' => e = .returned (.int .i64 r) ∧ Below w.heap.size w w' := by
 have hu27 := Try.underlying27
 have HR0_0 := Aside0.mk hr0_0
 have HC0_0 := Aside0.mk hc0_0
 clear hr0_0 hc0_0
 have HR0_1 := Aside0.mk hr0_1
 have HC0_1 := Aside0.mk hc0_1
 clear hr0_1 hc0_1
 have HB := Aside0.mk (Below.refl w.heap.size w)
 have H : (shape_Greatest.l0 k 0 l0_0 (l0_0.length : Int) 0) = some r := h
 clear h
 have H' := Aside0.mk H
 clear H
 go_enter Try.func98, Try.ntmps98
 go_wp2_with (first | ((with_reducible refine gate_dst (N := 1) rfl ?_); refine box_event ?hg (N := 1) ?hd (cs := #[.slice A0_0 l0_0.length c0_0, .slice A0_1 l0_1.length c0_1]) (t := 27) ?hr ?_; (case hd => rfl); (case hg => rfl); (case hr => first | (go_simp; done) | (go_simp; rfl)); intro gb661 hg w2 hbox hb; have n0_ := Aside0.mk (below_step (by repeat (first | (with_reducible first | exact HB.out | apply below_alloc | apply pw_below_drewN | apply below_drew1) | exact HB.out)) hb); have n1_ := Aside0.mk (hbox); have n2_ := Aside0.mk ((by rw [hg]; exact (below_size (by repeat (first | (with_reducible first | exact HB.out | apply below_alloc | apply pw_below_drewN | apply below_drew1) | exact HB.out))) : w.heap.size ≤ gb661)); have n3_ := Aside0.mk ((by rw [hg]; exact (below_size (by repeat (first | (with_reducible first | exact HB.out | apply below_alloc | apply pw_below_drewN | apply below_drew1) | exact HB.out))) : w.heap.size ≤ gb661)); clear HB; have HB := n0_; have BK661 := n1_; have GW661 := n2_; have GE661 := n3_; clear n0_ n1_ n2_ n3_; clear hb hbox hg; have hcz3_0 : w2.cell? ⟨gb661, 0, none⟩ = some (.slice A0_0 l0_0.length c0_0) := (blk_cell BK661.out 0).trans rfl; have hcz3_1 : w2.cell? ⟨gb661, 1, none⟩ = some (.slice A0_1 l0_1.length c0_1) := (blk_cell BK661.out 1).trans rfl; have hfz3_0 := blk_frozen BK661.out 0; have hfz3_1 := blk_frozen BK661.out 1))
 go_loopg [3, 9] k (fun kq v3 v9 w' => ∃ (x3_1 : Int) (x9_1 : Int), v3 = .int .i64 x3_1 ∧ v9 = .int .i64 x9_1 ∧ Aside0 (shape_Greatest.l0 kq x3_1 l0_0 (l0_0.length : Int) x9_1 = some r) ∧ Aside0 (kq ≤ k) ∧ Aside0 (w'.heap[gb661]? = some (.cells #[(.slice A0_0 l0_0.length c0_0), (.slice A0_1 l0_1.length c0_1)] 27 (0, 0))) ∧ Aside0 (Below w.heap.size w w'))
 case atStart => exact ⟨(0), (0), (by first | rfl | (simp; done) | (simp [*]; done)), (by first | rfl | (simp; done) | (simp [*]; done)), H', ⟨Nat.le_refl _⟩, ⟨by (with_reducible repeat (first | refine blk_drewN ?_ _ | refine blk_drew ?_ | refine blk_alloc ?_ _)); exact BK661.out⟩, ⟨by repeat (first | (with_reducible first | exact HB.out | apply below_alloc | apply pw_below_drewN | apply below_drew1 | refine below_set ?_ GE661.out) | exact HB.out)⟩⟩
 case round =>
  clear H'
  try clear p2
  try clear hcz3_0
  try clear hcz3_1
  try clear hfz3_0
  try clear hfz3_1
  obtain ⟨x3_1, x9_1, rfl, rfl, HA, HK1, BK661, HB⟩ := hrel
  cases gk with
  | zero => exact absurd HA.out (by simp [shape_Greatest.l0])
  | succ k1 =>
   have H := HA.out
   clear HA
   simp only [shape_Greatest.l0] at H
   by_cases c4 : x9_1 < (l0_0.length : Int)
   ·
    rw [if_pos c4] at H
    have c4b0 : decide (x9_1 < (l0_0.length : Int)) = true := decide_eq_true c4
    clear c4
    by_cases c5 : 0 ≤ x9_1
    ·
     rw [if_pos c5] at H
     have c5b0 : decide (0 ≤ x9_1) = true := decide_eq_true c5
     clear c5
     by_cases c6 : x9_1 < (l0_0.length : Int)
     ·
      rw [if_pos c6] at H
      have c6b0 : decide (x9_1 < (l0_0.length : Int)) = true := decide_eq_true c6
      clear c6
      obtain ⟨ji7, hji7⟩ : ∃ j_ : Int, (mx x3_1 (rd l0_0 x9_1)) = j_ := ⟨_, rfl⟩
      replace H : (shape_Greatest.l0 k1 ji7 l0_0 (l0_0.length : Int) (wrap64 (x9_1 + 1))) = some r := by first | (rw [hji7] at H; exact H) | (simp only [hji7] at H ⊢; exact H)
      have hji7_ : (if x3_1 < (rd l0_0 x9_1) then (rd l0_0 x9_1) else x3_1) = ji7 := hji7
      have H' := Aside0.mk H
      clear H
      have p662 : 0 ≤ (x9_1 : Int) := of_decide_eq_true (by first | (with_reducible assumption) | assumption)
      have q662 : x9_1 < (l0_0.length : Int) := of_decide_eq_true (by first | (with_reducible assumption) | assumption)
      obtain ⟨ad662, e662, hx662_0⟩ := Kd.at_int HR0_0.out x9_1 p662 q662
      cases e662
      replace hx662_0 := (HB.out.cell (World.block_lt_of_cell? w _ hx662_0)).trans hx662_0
      replace p662 := eq_true p662
      replace q662 := eq_true q662
      go_wp2
      go_roundg k1
      case measure => have := HK1.out; omega
      case rel => exact ⟨(ji7), (wrap64 (x9_1 + 1)), (by first | rfl | (simp; done) | (simp only [← hji7] <;> (first | rfl | simp)) | (simp [*]; done)), (by first | rfl | (simp; done) | (simp [*]; done)), H', ⟨by have := HK1.out; omega⟩, ⟨by (with_reducible repeat (first | refine blk_drewN ?_ _ | refine blk_drew ?_ | refine blk_alloc ?_ _)); exact BK661.out⟩, ⟨by repeat (first | (with_reducible first | exact HB.out | apply below_alloc | apply pw_below_drewN | apply below_drew1 | refine below_set ?_ GE661.out) | exact HB.out)⟩⟩
     ·
      rw [if_neg c6] at H
      exact absurd H (by simp)
    ·
     rw [if_neg c5] at H
     exact absurd H (by simp)
   ·
    rw [if_neg c4] at H
    have c4b0 : decide (x9_1 < (l0_0.length : Int)) = false := decide_eq_false c4
    clear c4
    obtain rfl := Option.some.inj H
    go_wp2
    go_ret
    exact ⟨by first | rfl | (simp [errW_none, errW_some] <;> rfl) | (simp [*, errW_none, errW_some] <;> rfl), by repeat (first | (with_reducible first | exact HB.out | apply below_alloc | apply pw_below_drewN | apply below_drew1 | refine below_set ?_ GE661.out) | exact HB.out)⟩
end Go.Proofs.YthapikakneikbaaG
namespace Go.Proofs.YthapikakneikbaaG
open Go.RowKit Go.Proofs.YthapikakneikbaaW.PrintWords Go.Proofs.YthapikakneikbaaW.PrintLast Go.Proofs.YthapikakneikbaaW.PrintMore
attribute [local go_sem] max2_int min2_int max_two min_two max_three min_three max_four min_four   -- for this text's walks alone
set_option linter.unusedVariables false
set_option linter.unusedSimpArgs false
def shape_Holds.f (l0_0 : List Int) (l0_1 : List (List (S60))) (l1 : List (List Int)) (l2 : List Int) : Option (Bool) := some (Go.Proofs.Ythapikakneikbaa.holdsB (toG l0_0 l0_1) l1 l2)
theorem shape_Holds.calls (A0_0 : Option Addr) (c0_0 : Nat) (l0_0 : List Int) (A0_1 : Option Addr) (c0_1 : Nat) (l0_1 : List (List (S60))) (A1 : Option Addr) (c1 : Nat) (l1 : List (List Int)) (A2 : Option Addr) (c2 : Nat) (l2 : List Int) (r : Bool) (w : World) (hr0_0 : Kd.C (Kd.int .i64) w A0_0 l0_0.length l0_0) (hc0_0 : l0_0.length ≤ c0_0) (hr0_1 : Kd.C (Kd.slice 60 k60) w A0_1 l0_1.length l0_1) (hc0_1 : l0_1.length ≤ c0_1) (hr1 : Kd.C (Kd.slice 3 (Kd.int .i64)) w A1 l1.length l1) (hc1 : l1.length ≤ c1) (hr2 : Kd.C (Kd.int .i64) w A2 l2.length l2) (hc2 : l2.length ≤ c2) (h : shape_Holds.f l0_0 l0_1 l1 l2 = some r) :
  Calls Try.prog 73 #[.agg #[.slice A0_0 l0_0.length c0_0, .slice A0_1 l0_1.length c0_1], .slice A1 l1.length c1, .slice A2 l2.length c2] w fun e w' => e = .returned (.bool r) ∧ Below w.heap.size w w' := by
 injection h with h
 subst h
 have hv := Go.Proofs.Ythapikakneikbaa.holds_calls w A0_0 c0_0 A0_1 c0_1 (toG l0_0 l0_1) (isGraph hr0_0 hc0_0 hr0_1 hc0_1) A1 c1 l1 (C_conf hr1) A2 c2 l2 (C_ints hr2)
 rw [show (toG l0_0 l0_1).ports.length = l0_1.length by simp [toG]] at hv
 exact hv
end Go.Proofs.YthapikakneikbaaG
