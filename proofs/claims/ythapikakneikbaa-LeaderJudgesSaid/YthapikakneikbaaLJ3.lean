/-
  Lemmas and walks for this claim, part 3: Reg, Link, Good, RefLaw, RefValid, RefBridge, Gselfstabref01Valid, Gselfstabref01Distances.
-/
import Derived.OrdersHeld
import Derived.Deep.RegionHeld3
import Derived.Laws.BitsLemmas
import Derived.RowKit
import Derived.Deep.AppendLies
import Derived.Test.YthapikakneikbaaLJ2
/-
  Words on regions that draw their order (out of the print's words for claims).
-/
namespace Go.Proofs.Ythapikakneikbaa
/-- A fact that the walk's simp doesn't look into. -/
structure Aside0 (p : Prop) : Prop where mk :: (out : p)
end Go.Proofs.Ythapikakneikbaa
namespace Go.Proofs.Ythapikakneikbaa
section
variable {P : Program} {ops : Array Oper} {Q : Exit → Act → World → Prop} {md : Region.Mode} {S : World → Prop} {ds : List Nat}
/-- Operation d waits for operation i, by a chain of at most 'fuel' edges. -/
def Region.reachB (md : Region.Mode) (ops : Array Oper) (i : Nat) : Nat → Nat → Bool
  | 0, _ => false
  | fuel + 1, d => match ops[d]? with
    | some o => o.after.any fun e => Region.binds md e && (e.on == i || Region.reachB md ops i fuel e.on)
    | none => false
/-- What is listed is closed under the edges. -/
def Region.closedB (md : Region.Mode) (ops : Array Oper) (listed : Array Bool) : Bool :=
  (List.range ops.size).all fun j => !listed.getD j false || match ops[j]? with
    | some o => o.after.all fun e => !Region.binds md e || listed.getD e.on false
    | none => true
/-- Each of ds that has not come up yet waits for number i. -/
def Region.lastB (md : Region.Mode) (ops : Array Oper) (listed : Array Bool) (ds : List Nat) (i : Nat) : Bool :=
  ds.all fun d => listed.getD d true || Region.reachB md ops i ops.size d
def ListedClosed (md : Region.Mode) (ops : Array Oper) (listed : Array Bool) : Prop :=
  ∀ j oj, ops[j]? = some oj → listed.getD j false = true → ∀ e ∈ oj.after, Region.binds md e = true → listed.getD e.on false = true
theorem Region.closedB_spec {listed : Array Bool} (h : Region.closedB md ops listed = true) : ListedClosed md ops listed := by
  intro j oj hj hl e he hb
  have hlt : j < ops.size := (Array.getElem?_eq_some_iff.1 hj).1
  have h1 := List.all_eq_true.1 h j (List.mem_range.2 hlt)
  simp only [hl, hj, Bool.not_true, Bool.false_or] at h1
  have h2 := Array.all_eq_true_iff_forall_mem.1 h1 e he
  simpa [hb] using h2
theorem ListedClosed.set {listed : Array Bool} {i : Nat} (h : ListedClosed md ops listed) (hi : i ∈ Region.ready md ops listed) : ListedClosed md ops (listed.setIfInBounds i true) := by
  obtain ⟨_, oi, hoi, hall⟩ := mem_ready.1 hi
  intro j oj hj hl e he hb
  by_cases hij : i = j
  · subst hij
    have : oj = oi := Option.some.inj (hj.symm.trans hoi)
    subst this
    exact getD_set_true (hall e he hb)
  · rw [getD_set_ne false hij] at hl
    exact getD_set_true (h j oj hj hl e he hb)
theorem Region.reach_listed {listed : Array Bool} {i : Nat} (hc : ListedClosed md ops listed) : ∀ (fuel d : Nat), Region.reachB md ops i fuel d = true → listed.getD d false = true → listed.getD i false = true
  | 0, _, h, _ => by simp [Region.reachB] at h
  | fuel + 1, d, h, hl => by
    unfold Region.reachB at h
    cases ho : ops[d]? with
    | none => rw [ho] at h; simp at h
    | some o =>
      rw [ho] at h
      obtain ⟨e, he, h1⟩ := Array.any_eq_true'.1 h
      simp only [Bool.and_eq_true, Bool.or_eq_true, beq_iff_eq] at h1
      have hle := hc d o ho hl e he h1.1
      rcases h1.2 with h2 | h2
      · rw [← h2]; exact hle
      · exact Region.reach_listed hc fuel e.on h2 hle
/-- What waits for i cannot come up before i is listed. -/
theorem Region.reach_not_ready {listed : Array Bool} {i d fuel : Nat} (hc : ListedClosed md ops listed) (hr : Region.reachB md ops i fuel d = true) (hun : listed.getD i true = false) : d ∉ Region.ready md ops listed := by
  intro hd
  obtain ⟨_, o, ho, hall⟩ := mem_ready.1 hd
  have hi : listed.getD i false = true := by
    cases fuel with
    | zero => simp [Region.reachB] at hr
    | succ n =>
      unfold Region.reachB at hr
      rw [ho] at hr
      obtain ⟨e, he, h1⟩ := Array.any_eq_true'.1 hr
      simp only [Bool.and_eq_true, Bool.or_eq_true, beq_iff_eq] at h1
      have hle := hall e he h1.1
      rcases h1.2 with h2 | h2
      · rw [← h2]; exact hle
      · exact Region.reach_listed hc n e.on h2 hle
  rcases Nat.lt_or_ge i listed.size with h' | h'
  · simp [h'] at hun hi
    rw [hun] at hi
    cases hi
  · simp [Array.getElem?_eq_none h'] at hun
/-- Whatever order is picked from here on, AND 'S' HOLDS BEHIND EVERY OPERATION THAT IS CARRIED OUT, those of ds apart. -/
def wpAnyLast (P : Program) (md : Region.Mode) (ops : Array Oper) (Q : Exit → Act → World → Prop) (S : World → Prop) (ds : List Nat) : Nat → Array Bool → Act → World → Prop
  | 0, listed, a, w => Region.ready md ops listed = [] ∧ Q .normal a w
  | fuel + 1, listed, a, w =>
    (Region.ready md ops listed = [] → Q .normal a w) ∧
    ∀ i ∈ Region.ready md ops listed, wpOp P ops Q i (fun a' w' => (i ∉ ds → S w → S w') ∧ wpAnyLast P md ops Q S ds fuel (listed.setIfInBounds i true) a' w') a w
theorem wpAny_of_last : ∀ (fuel : Nat) (listed : Array Bool) (a : Act) (w : World), wpAnyLast P md ops Q S ds fuel listed a w → wpAny P md ops Q fuel listed a w
  | 0, _, _, _, h => h
  | fuel + 1, _, _, _, h => ⟨h.1, fun i hi => wpOp_mono (fun a' w' h' => wpAny_of_last fuel _ a' w' h'.2) (h.2 i hi)⟩
theorem wpAnyLast_first {i : Nat} {oi : Oper} {v : Value} (hi : ops[i]? = some oi) (hsel : ∀ (j : Nat) (o : Oper) cs b, ops[j]? = some o → o.op ≠ .select cs b)
    (hQ : ∀ c a w, Q (.panic c) (a.put oi.dst v) w → Q (.panic c) a w) (n : Nat) :
    ∀ (fuel : Nat) (listed : Array Bool) (a : Act) (w : World),
      (∀ j oj, ops[j]? = some oj → j ≠ i → listed.getD j true = false → (∀ e ∈ oj.after, Region.binds md e = true → e.on ≠ i) → oi.apart ops oj = true) →
      ListedClosed md ops listed → (∀ d ∈ ds, listed.getD d true = false → Region.reachB md ops i n d = true) →
      i ∈ Region.ready md ops listed → YieldsIf P ops S oi v a → S w →
      wpAnyLast P md ops Q S ds fuel (listed.setIfInBounds i true) (a.put oi.dst v) w → wpAnyLast P md ops Q S ds (fuel + 1) listed a w := by
  intro fuel
  induction fuel with
  | zero =>
    intro listed a w _ _ _ hr hy hS H
    refine ⟨fun h => (by rw [h] at hr; cases hr), fun j hj => ?_⟩
    by_cases hji : j = i
    · subst hji; exact hy.wpOp hi hS ⟨fun _ h => h, H⟩
    · have := ready_mono hj hji
      rw [H.1] at this
      cases this
  | succ fuel ih =>
    intro listed a w hfree hc hd hr hy hS H
    refine ⟨fun h => (by rw [h] at hr; cases hr), fun j hj => ?_⟩
    by_cases hji : j = i
    · subst hji; exact hy.wpOp hi hS ⟨fun _ h => h, H⟩
    · have h1 := H.2 j (ready_mono hj hji)
      obtain ⟨hjun, oj, hoj, hall⟩ := mem_ready.1 hj
      have hiun := (mem_ready.1 hr).1
      have hnot : ∀ e ∈ oj.after, Region.binds md e = true → e.on ≠ i := fun e he hb heq => by
        have h1 := hall e he hb
        rw [heq] at h1
        rcases Nat.lt_or_ge i listed.size with h' | h'
        · simp [h'] at hiun h1; rw [hiun] at h1; cases h1
        · simp [Array.getElem?_eq_none h'] at h1
      have hjd : j ∉ ds := fun hm => Region.reach_not_ready hc (hd j hm hjun) hiun hj
      have h2 := wpOp_putIf hoj (hfree j oj hoj hji hjun hnot) (fun cs b => hsel i oi cs b hi) (fun cs b => hsel j oj cs b hoj) hQ hy h1
      have hfree' : ∀ k ok, ops[k]? = some ok → k ≠ i → (listed.setIfInBounds j true).getD k true = false →
          (∀ e ∈ ok.after, Region.binds md e = true → e.on ≠ i) → oi.apart ops ok = true := fun k ok hk hki hun hno => by
        refine hfree k ok hk hki ?_ hno
        by_cases hjk : j = k
        · subst hjk; exact hjun
        · rw [getD_set_ne true hjk] at hun; exact hun
      have hd' : ∀ d ∈ ds, (listed.setIfInBounds j true).getD d true = false → Region.reachB md ops i n d = true := fun d hm hun => by
        refine hd d hm ?_
        by_cases hjk : j = d
        · subst hjk; exact hjun
        · rw [getD_set_ne true hjk] at hun; exact hun
      refine wpOp_mono (fun a' w' h3 => ⟨h3.2.1, ih (listed.setIfInBounds j true) a' w' hfree' (hc.set hj) hd' (ready_mono hr (Ne.symm hji)) h3.1 (h3.2.1 hjd hS) ?_⟩) h2
      rw [Array.setIfInBounds_comm _ _ hji]
      exact h3.2.2
/-- Take number 'i' first, which yields whatever the world: no S is asked for, nor that anything waits for it. -/
theorem wpAnyLast_any {i : Nat} {oi : Oper} {v : Value} (hi : ops[i]? = some oi) (hsel : ∀ (j : Nat) (o : Oper) cs b, ops[j]? = some o → o.op ≠ .select cs b)
    (hQ : ∀ c a w, Q (.panic c) (a.put oi.dst v) w → Q (.panic c) a w) :
    ∀ (fuel : Nat) (listed : Array Bool) (a : Act) (w : World),
      (∀ j oj, ops[j]? = some oj → j ≠ i → listed.getD j true = false → (∀ e ∈ oj.after, Region.binds md e = true → e.on ≠ i) → oi.apart ops oj = true) →
      i ∈ Region.ready md ops listed → Yields P ops oi v a →
      wpAnyLast P md ops Q S ds fuel (listed.setIfInBounds i true) (a.put oi.dst v) w → wpAnyLast P md ops Q S ds (fuel + 1) listed a w := by
  intro fuel
  induction fuel with
  | zero =>
    intro listed a w _ hr hy H
    refine ⟨fun h => (by rw [h] at hr; cases hr), fun j hj => ?_⟩
    by_cases hji : j = i
    · subst hji; exact (hy.yieldsIf (S := fun _ => True)).wpOp hi trivial ⟨fun _ h => h, H⟩
    · have := ready_mono hj hji
      rw [H.1] at this
      cases this
  | succ fuel ih =>
    intro listed a w hfree hr hy H
    refine ⟨fun h => (by rw [h] at hr; cases hr), fun j hj => ?_⟩
    by_cases hji : j = i
    · subst hji; exact (hy.yieldsIf (S := fun _ => True)).wpOp hi trivial ⟨fun _ h => h, H⟩
    · have h1 := H.2 j (ready_mono hj hji)
      obtain ⟨hjun, oj, hoj, hall⟩ := mem_ready.1 hj
      have hiun := (mem_ready.1 hr).1
      have hnot : ∀ e ∈ oj.after, Region.binds md e = true → e.on ≠ i := fun e he hb heq => by
        have h1 := hall e he hb
        rw [heq] at h1
        rcases Nat.lt_or_ge i listed.size with h' | h'
        · simp [h'] at hiun h1; rw [hiun] at h1; cases h1
        · simp [Array.getElem?_eq_none h'] at h1
      have h2 := wpOp_put hoj (hfree j oj hoj hji hjun hnot) (fun cs b => hsel i oi cs b hi) (fun cs b => hsel j oj cs b hoj) hQ hy h1
      have hfree' : ∀ k ok, ops[k]? = some ok → k ≠ i → (listed.setIfInBounds j true).getD k true = false →
          (∀ e ∈ ok.after, Region.binds md e = true → e.on ≠ i) → oi.apart ops ok = true := fun k ok hk hki hun hno => by
        refine hfree k ok hk hki ?_ hno
        by_cases hjk : j = k
        · subst hjk; exact hjun
        · rw [getD_set_ne true hjk] at hun; exact hun
      refine wpOp_mono (fun a' w' h3 => ⟨h3.2.1, ih (listed.setIfInBounds j true) a' w' hfree' (ready_mono hr (Ne.symm hji)) h3.1 ?_⟩) h2
      rw [Array.setIfInBounds_comm _ _ hji]
      exact h3.2.2
/-- Take number 'i' first. -/
theorem wpAnyLast_take {i : Nat} {oi : Oper} {v : Value} {fuel : Nat} {listed : Array Bool} {a : Act} {w : World} (hi : ops[i]? = some oi)
    (hs : Region.noSelect ops = true) (hf : Region.free md ops listed i = true) (hr : (Region.ready md ops listed).contains i = true)
    (hc : Region.closedB md ops listed = true) (hl : Region.lastB md ops listed ds i = true)
    (hQ : ∀ c a w, Q (.panic c) (a.put oi.dst v) w → Q (.panic c) a w) (hy : YieldsIf P ops S oi v a) (hS : S w)
    (h : wpAnyLast P md ops Q S ds fuel (listed.setIfInBounds i true) (a.put oi.dst v) w) : wpAnyLast P md ops Q S ds (fuel + 1) listed a w :=
  wpAnyLast_first hi (Region.noSelect_spec hs) hQ ops.size fuel listed a w (Region.free_spec hi hf) (Region.closedB_spec hc)
    (fun d hm hun => by have := List.all_eq_true.1 hl d hm; rw [hun] at this; simpa using this) (by simpa using hr) hy hS h
theorem wpAnyLast_all {rs : List Nat} {fuel : Nat} {listed : Array Bool} {a : Act} {w : World} (hr : Region.ready md ops listed = rs) (hne : rs ≠ [])
    (h : ∀ i ∈ rs, wpOp P ops Q i (fun a' w' => (i ∉ ds → S w → S w') ∧ wpAnyLast P md ops Q S ds fuel (listed.setIfInBounds i true) a' w') a w) : wpAnyLast P md ops Q S ds (fuel + 1) listed a w :=
  ⟨fun h0 => absurd (hr ▸ h0) hne, hr ▸ h⟩
theorem wpAnyLast_done {listed : Array Bool} {a : Act} {w : World} (hr : Region.ready md ops listed = []) (h : Q .normal a w) :
    ∀ fuel, wpAnyLast P md ops Q S ds fuel listed a w
  | 0 => ⟨hr, h⟩
  | _ + 1 => ⟨fun _ => h, by rw [hr]; simp⟩
theorem wp_region_last {id : Nat} {a : Act} {w : World} (hm : P.follows .mixedOrders = true)
    (h : wpAnyLast P .any ops Q S ds ops.size (Array.replicate ops.size false) a { w with drawn := w.drawn + 1 }) : (Code.region id ops true).wp P Q a w :=
  wp_region_any hm (wpAny_of_last _ _ _ _ h)
end
section
variable {P : Program} {ops : Array Oper} {Q : Exit → Act → World → Prop} {md : Region.Mode} {S : World → Prop} {ds : List Nat}
def AllReadyL (P : Program) (md : Region.Mode) (ops : Array Oper) (Q : Exit → Act → World → Prop) (S : World → Prop) (ds : List Nat) (fuel : Nat) (listed : Array Bool) (a : Act) (w : World) (rs : List Nat) : Prop :=
  ∀ i ∈ rs, wpOp P ops Q i (fun a' w' => (i ∉ ds → S w → S w') ∧ wpAnyLast P md ops Q S ds fuel (listed.setIfInBounds i true) a' w') a w
theorem AllReadyL.nil {fuel : Nat} {listed : Array Bool} {a : Act} {w : World} : AllReadyL P md ops Q S ds fuel listed a w [] := fun _ h => by cases h
theorem AllReadyL.cons {fuel : Nat} {listed : Array Bool} {a : Act} {w : World} {i : Nat} {o : Oper} {rs : List Nat} (ho : ops[i]? = some o) (hd : i ∉ ds)
    (h : ∀ K' : Act → World → Prop, Shut (∀ a w, S w → (S w → wpAnyLast P md ops Q S ds fuel (listed.setIfInBounds i true) a w) → K' a w) → if Region.wanted o (yielded ops a.tmps) = true then Oper.wp P o a w K' Q else K' (a.put o.dst undef) w)
    (hs : AllReadyL P md ops Q S ds fuel listed a w rs) : AllReadyL P md ops Q S ds fuel listed a w (i :: rs) := fun j hj => by
  rcases List.mem_cons.1 hj with rfl | hj
  · exact wpOp_step ho (fun K' hK => h K' (fun a w hS hW => hK a w ⟨fun _ _ => hS, hW hS⟩))
  · exact hs j hj
/-- Behind an operation of ds nothing is shown. -/
theorem AllReadyL.cons_last {fuel : Nat} {listed : Array Bool} {a : Act} {w : World} {i : Nat} {o : Oper} {rs : List Nat} (ho : ops[i]? = some o) (hd : i ∈ ds)
    (h : ∀ K' : Act → World → Prop, Shut (∀ a w, wpAnyLast P md ops Q S ds fuel (listed.setIfInBounds i true) a w → K' a w) → if Region.wanted o (yielded ops a.tmps) = true then Oper.wp P o a w K' Q else K' (a.put o.dst undef) w)
    (hs : AllReadyL P md ops Q S ds fuel listed a w rs) : AllReadyL P md ops Q S ds fuel listed a w (i :: rs) := fun j hj => by
  rcases List.mem_cons.1 hj with rfl | hj
  · exact wpOp_step ho (fun K' hK => h K' (fun a w hW => hK a w ⟨fun hn => absurd hd hn, hW⟩))
  · exact hs j hj
theorem wpAnyLast_ready {rs : List Nat} {fuel : Nat} {listed : Array Bool} {a : Act} {w : World} (hr : Region.ready md ops listed = rs) (hne : rs ≠ [])
    (h : AllReadyL P md ops Q S ds fuel listed a w rs) : wpAnyLast P md ops Q S ds (fuel + 1) listed a w := wpAnyLast_all hr hne h
/-- THE SAME STEPS WITH WHAT HAS COME UP WRITTEN OUT (a literal array of Bools) and one check a step: quicker, and what is printed stays short. -/
theorem start_ {id n : Nat} {a : Act} {w : World} (l : Array Bool) (hm : P.follows .mixedOrders = true) (hn : ops.size = n) (hl : Array.replicate n false = l) (hS : S w.drew)
    (h : S w.drew → wpAnyLast P .any ops Q S ds n l a w.drew) : (Code.region id ops true).wp P Q a w := by
  subst hn
  subst hl
  exact wp_region_last hm (h hS)
def takeB (md : Region.Mode) (ops : Array Oper) (ds : List Nat) (l l' : Array Bool) (i : Nat) : Bool :=
  Region.noSelect ops && Region.free md ops l i && (Region.ready md ops l).contains i && Region.closedB md ops l && Region.lastB md ops l ds i && (l.setIfInBounds i true == l')
theorem take_ {i : Nat} {N : Option Tmp} {oi : Oper} {v : Value} {fuel : Nat} {l : Array Bool} {a : Act} {w : World} (l' : Array Bool) (hi : ops[i]? = some oi) (hN : oi.dst = N) (hc : takeB md ops ds l l' i = true)
    (hQ : ∀ c a w, Q (.panic c) (a.put oi.dst v) w → Q (.panic c) a w) (hy : YieldsIf P ops S oi v a) (hS : S w) {a' : Act} (ha : a.put N v = a')
    (h : wpAnyLast P md ops Q S ds fuel l' a' w) : wpAnyLast P md ops Q S ds (fuel + 1) l a w := by
  subst ha
  subst hN
  simp only [takeB, Bool.and_eq_true, beq_iff_eq] at hc
  obtain ⟨⟨⟨⟨⟨h1, h2⟩, h3⟩, h4⟩, h5⟩, h6⟩ := hc
  subst h6
  exact wpAnyLast_take hi h1 h2 h3 h4 h5 hQ hy hS h
def anyB (md : Region.Mode) (ops : Array Oper) (l l' : Array Bool) (i : Nat) : Bool :=
  Region.noSelect ops && Region.free md ops l i && (Region.ready md ops l).contains i && (l.setIfInBounds i true == l')
/-- An operation that yields in every world (a move, a number, an address): taken first wherever it may come up, behind a store too. -/
theorem pure_ {i : Nat} {N : Option Tmp} {oi : Oper} {v : Value} {fuel : Nat} {l : Array Bool} {a : Act} {w : World} (l' : Array Bool) (hi : ops[i]? = some oi) (hN : oi.dst = N) (hc : anyB md ops l l' i = true)
    (hQ : ∀ c a w, Q (.panic c) (a.put oi.dst v) w → Q (.panic c) a w) (hy : Yields P ops oi v a) {a' : Act} (ha : a.put N v = a')
    (h : wpAnyLast P md ops Q S ds fuel l' a' w) : wpAnyLast P md ops Q S ds (fuel + 1) l a w := by
  subst ha
  subst hN
  simp only [anyB, Bool.and_eq_true, beq_iff_eq] at hc
  obtain ⟨⟨⟨h1, h2⟩, h3⟩, h6⟩ := hc
  subst h6
  exact wpAnyLast_any hi (Region.noSelect_spec h1) hQ fuel l a w (Region.free_spec hi h2) (by simpa using h3) hy h
def readyB (md : Region.Mode) (ops : Array Oper) (l l' : Array Bool) (i : Nat) : Bool := (Region.ready md ops l == [i]) && (l.setIfInBounds i true == l')
/-- One operation alone may come up now (a call, a build, an append ..): it is run, S is shown behind it. -/
theorem one_ {i : Nat} {N : Option Tmp} {oi : Oper} {fuel : Nat} {l : Array Bool} {a : Act} {w : World} (l' : Array Bool) (hi : ops[i]? = some oi) (hN : oi.dst = N) (hc : readyB md ops l l' i = true) (hd : i ∉ ds)
    (h : ∀ K : Act → World → Prop, Shut (∀ a' w', S w' → (S w' → wpAnyLast P md ops Q S ds fuel l' a' w') → K a' w') → if Region.wanted oi (yielded ops a.tmps) = true then Oper.wp P oi a w K Q else K (a.put N undef) w) :
    wpAnyLast P md ops Q S ds (fuel + 1) l a w := by
  subst hN
  simp only [readyB, Bool.and_eq_true, beq_iff_eq] at hc
  obtain ⟨h1, h2⟩ := hc
  subst h2
  exact wpAnyLast_ready h1 (by simp) (AllReadyL.cons hi hd (fun K hK => h K hK) AllReadyL.nil)
/-- The same for one of ds: nothing is shown behind it. -/
theorem last_ {i : Nat} {N : Option Tmp} {oi : Oper} {fuel : Nat} {l : Array Bool} {a : Act} {w : World} (l' : Array Bool) (hi : ops[i]? = some oi) (hN : oi.dst = N) (hc : readyB md ops l l' i = true) (hd : i ∈ ds)
    (h : ∀ K : Act → World → Prop, Shut (∀ a' w', wpAnyLast P md ops Q S ds fuel l' a' w' → K a' w') → if Region.wanted oi (yielded ops a.tmps) = true then Oper.wp P oi a w K Q else K (a.put N undef) w) :
    wpAnyLast P md ops Q S ds (fuel + 1) l a w := by
  subst hN
  simp only [readyB, Bool.and_eq_true, beq_iff_eq] at hc
  obtain ⟨h1, h2⟩ := hc
  subst h2
  exact wpAnyLast_ready h1 (by simp) (AllReadyL.cons_last hi hd (fun K hK => h K hK) AllReadyL.nil)
theorem done_ {l : Array Bool} {a : Act} {w : World} {n : Nat} (hr : (Region.ready md ops l == []) = true) (h : Q .normal a w) : wpAnyLast P md ops Q S ds n l a w := wpAnyLast_done (by simpa using hr) h n
/-! ### Several operations that write or call may come up: each order is walked, what follows is shown once (join_) -/
/-- The act written out. -/
theorem norm_ {fuel : Nat} {l : Array Bool} {a a' : Act} {w : World} (ha : a = a') (h : wpAnyLast P md ops Q S ds fuel l a' w) : wpAnyLast P md ops Q S ds fuel l a w := by
  subst ha
  exact h
/-- A call of a Go function, by its contract. -/
theorem call_ {oi : Oper} {N : Option Tmp} {a : Act} {w : World} {K : Act → World → Prop} (f : FuncId) (args : Array Value) (hw : Region.wanted oi (yielded ops a.tmps) = true) (hN : oi.dst = N) (hrun : (execOp a.eval oi).run P w = .ok (.enter f args) w)
    (h : Calls P f args w fun e w' => ∃ v, e = .returned v ∧ K (a.put N v) w') : if Region.wanted oi (yielded ops a.tmps) = true then Oper.wp P oi a w K Q else K (a.put N undef) w := by
  rw [if_pos hw]
  subst hN
  unfold Oper.wp
  rw [hrun, Oper.upon_enter]
  refine h.mono fun e w'' hh => ?_
  obtain ⟨v, rfl, hk⟩ := hh
  exact hk
theorem enters_ {f : FuncId} {fn : Func} (hf : P.funcs[f]? = some fn) (hname : (fn.name == "runtime.NumGoroutine") = false) (hb : fn.body.isSome = true) (args : Array Value) (w : World) : (callFunc f args).run P w = .ok (.enter f args) w := by
  have h1 : fn.name ≠ "runtime.NumGoroutine" := by simpa using hname
  obtain ⟨c, hc⟩ := Option.isSome_iff_exists.1 hb
  simp [callFunc, hf, h1, hc]
/-- The same, the operation's run shown here: 'goes_ A.func3 (by kernel_rfl) rfl #[..] (by rfl) rfl rfl (by rfl) ?_'. -/
theorem goes_ {oi : Oper} {N : Option Tmp} {a : Act} {w : World} {K : Act → World → Prop} {f : FuncId} {fn : Func} {as_q : Array Operand} {ts : Array TypeId} (hf : P.funcs[f]? = some fn) (hname : (fn.name == "runtime.NumGoroutine") = false) (hb : fn.body.isSome = true) (args : Array Value)
    (hw : Region.wanted oi (yielded ops a.tmps) = true) (hN : oi.dst = N) (hop : oi.op = .call { callee := .value (.func f), args := as_q, argTypes := ts }) (hargs : as_q.map a.eval = args)
    (h : Calls P f args w fun e w' => ∃ v, e = .returned v ∧ K (a.put N v) w') : if Region.wanted oi (yielded ops a.tmps) = true then Oper.wp P oi a w K Q else K (a.put N undef) w := by
  refine call_ f args hw hN ?_ h
  have he := enters_ hf hname hb args w
  unfold execOp
  simp [hop, resolve, Deferred.ofValue, invoke, Act.eval, hargs, he]
/-- A call in a plain region, as_q an arm of go_wp2_with ('hd' first: it fails at once at another operation). -/
theorem goesL_ {rest : List Oper} {oi : Oper} {a : Act} {w : World} (N : Option Tmp) (hd : oi.dst = N) (hg : oi.guard = none) {f : FuncId} {fn : Func} {as_q : Array Operand} {ts : Array TypeId} (hf : P.funcs[f]? = some fn) (hname : (fn.name == "runtime.NumGoroutine") = false) (hb : fn.body.isSome = true) (args : Array Value)
    (hop : oi.op = .call { callee := .value (.func f), args := as_q, argTypes := ts }) (hargs : as_q.map a.eval = args)
    (h : Calls P f args w fun e w' => ∃ v, e = .returned v ∧ wpList P ops Q rest (a.put N v) w') : wpList P ops Q (oi :: rest) a w := by
  refine wpList_plain hg fun K hK => ?_
  have he := enters_ hf hname hb args w
  have hrun : (execOp a.eval oi).run P w = .ok (.enter f args) w := by
    unfold execOp
    simp [hop, resolve, Deferred.ofValue, invoke, Act.eval, hargs, he]
  unfold Oper.wp
  rw [hrun, Oper.upon_enter]
  refine h.mono fun e w'' hh => ?_
  obtain ⟨v, rfl, hk⟩ := hh
  subst hd
  exact hK _ _ hk
/-- An operation that yields a value (and may make memory). -/
theorem value_ {oi : Oper} {N : Option Tmp} {a : Act} {w w1 : World} {v : Value} {K : Act → World → Prop} (hw : Region.wanted oi (yielded ops a.tmps) = true) (hN : oi.dst = N) (hrun : (execOp a.eval oi).run P w = .ok (.value v) w1)
    (h : K (a.put N v) w1) : if Region.wanted oi (yielded ops a.tmps) = true then Oper.wp P oi a w K Q else K (a.put N undef) w := by
  rw [if_pos hw]
  subst hN
  unfold Oper.wp
  rw [hrun]
  exact h
/-- A store. -/
theorem skip_ {oi : Oper} {a : Act} {w w1 : World} {K : Act → World → Prop} (hw : Region.wanted oi (yielded ops a.tmps) = true) (hN : oi.dst = none) (hrun : (execOp a.eval oi).run P w = .ok .skip w1)
    (h : K a w1) : if Region.wanted oi (yielded ops a.tmps) = true then Oper.wp P oi a w K Q else K (a.put none undef) w := by
  rw [if_pos hw]
  unfold Oper.wp
  rw [hrun]
  show K (a.put oi.dst undef) w1
  rw [hN]
  exact h
theorem i64_w (n : Int) : IntKind.i64.wrap n = Go.RowKit.wrap64 n := by unfold Go.RowKit.wrap64; exact IntKind.wrap_i64 n
theorem i32_w (n : Int) : IntKind.i32.wrap n = Go.RowKit.wrap32 n := by unfold Go.RowKit.wrap32; exact IntKind.wrap_i32 n
end
end Go.Proofs.Ythapikakneikbaa
/-! ### 50. A region's order in a table, made once a region: each step asks the table (numbers alone), not the operations -/
namespace Go.Proofs.Ythapikakneikbaa
def needsOf (md : Region.Mode) (o : Oper) : List Nat := (o.after.toList.filter (fun e => Region.binds md e)).map (fun e => e.on)
def clashOf (md : Region.Mode) (ops : Array Oper) (i : Nat) (oi : Oper) : List Nat := (List.range ops.size).filter fun j => !(j == i) && match ops[j]? with
  | some oj => !(oj.after.any (fun e => Region.binds md e && e.on == i) || oi.apart ops oj)
  | none => false
/-- No select in it; for each operation: what must have come up before it, and what may not come up behind it if it is taken first. -/
def rtab (md : Region.Mode) (ops : Array Oper) : Bool × List (List Nat × List Nat) := (Region.noSelect ops, (List.range ops.size).map fun i => match ops[i]? with
  | some o => (needsOf md o, clashOf md ops i o)
  | none => ([], []))
def readyAt (T : List (List Nat × List Nat)) (l : List Bool) (i : Nat) : Bool := !l.getD i true && match T[i]? with
  | some r => r.1.all (fun j => l.getD j false)
  | none => false
def readyT (T : List (List Nat × List Nat)) (l : List Bool) : List Nat := (List.range T.length).filter (readyAt T l)
def freeT (T : List (List Nat × List Nat)) (l : List Bool) (i : Nat) : Bool := match T[i]? with
  | some r => r.2.all (fun j => l.getD j true)
  | none => false
def closedT (T : List (List Nat × List Nat)) (l : List Bool) : Bool := (List.range T.length).all fun j => !l.getD j false || match T[j]? with
  | some r => r.1.all (fun k => l.getD k false)
  | none => true
def reachT (T : List (List Nat × List Nat)) (i : Nat) : Nat → Nat → Bool
  | 0, _ => false
  | fuel + 1, d => match T[d]? with
    | some r => r.1.any fun j => j == i || reachT T i fuel j
    | none => false
def lastT (T : List (List Nat × List Nat)) (l : List Bool) (ds : List Nat) (i : Nat) : Bool := ds.all fun d => l.getD d true || reachT T i T.length d
section
variable {md : Region.Mode} {ops : Array Oper} {T : Bool × List (List Nat × List Nat)} {l l' li lj lk : Array Bool} {ds : List Nat} {i j k : Nat}
theorem gd (l : Array Bool) (j : Nat) (b : Bool) : l.getD j b = l.toList.getD j b := by simp [Array.getD_eq_getD_getElem?, List.getD_eq_getElem?_getD]
theorem needs_all (o : Oper) (p : Nat → Bool) : o.after.all (fun e => !Region.binds md e || p e.on) = (needsOf md o).all p := by
  unfold needsOf
  rw [← Array.all_toList]
  induction o.after.toList with
  | nil => rfl
  | cons e r ih =>
    rw [List.all_cons, ih, List.filter_cons]
    cases h : Region.binds md e <;> simp
theorem needs_any (o : Oper) (p : Nat → Bool) : o.after.any (fun e => Region.binds md e && p e.on) = (needsOf md o).any p := by
  unfold needsOf
  rw [← Array.any_toList]
  induction o.after.toList with
  | nil => rfl
  | cons e r ih =>
    rw [List.any_cons, ih, List.filter_cons]
    cases h : Region.binds md e <;> simp
theorem rtab_length : (rtab md ops).2.length = ops.size := by simp [rtab]
theorem rtab_some {o : Oper} (h : ops[i]? = some o) : (rtab md ops).2[i]? = some (needsOf md o, clashOf md ops i o) := by
  have hi := (Array.getElem?_eq_some_iff.1 h).1
  unfold rtab
  rw [List.getElem?_map, List.getElem?_range hi, Option.map_some, h]
theorem rtab_none (h : ops[i]? = none) : (rtab md ops).2[i]? = none := by
  have hi : ops.size ≤ i := Array.getElem?_eq_none_iff.1 h
  exact List.getElem?_eq_none (by rw [rtab_length]; exact hi)
theorem readyAt_eq : readyAt (rtab md ops).2 l.toList i = (!l.getD i true && ((ops[i]?).map (·.after.all fun e => !Region.binds md e || l.getD e.on false)).getD false) := by
  unfold readyAt
  rw [gd]
  cases h : ops[i]? with
  | none => rw [rtab_none h]; rfl
  | some o =>
    rw [rtab_some h]
    simp only [Option.map_some, Option.getD_some]
    rw [← needs_all]
    simp only [gd]
theorem ready_eq : Region.ready md ops l = readyT (rtab md ops).2 l.toList := by
  unfold Region.ready readyT
  rw [rtab_length]
  refine List.filter_congr (fun i _ => ?_)
  rw [readyAt_eq]
theorem free_eq : Region.free md ops l i = freeT (rtab md ops).2 l.toList i := by
  unfold Region.free freeT
  cases h : ops[i]? with
  | none => rw [rtab_none h]
  | some oi =>
    rw [rtab_some h]
    simp only [clashOf]
    rw [List.all_filter]
    congr 1
    funext j
    rw [gd]
    cases hj : ops[j]? with
    | none => cases (j == i) <;> cases (l.toList.getD j true) <;> simp
    | some oj =>
      cases (j == i) <;> cases (l.toList.getD j true) <;> cases (oj.after.any (fun e => Region.binds md e && e.on == i) || oi.apart ops oj) <;> simp_all
theorem closed_eq : Region.closedB md ops l = closedT (rtab md ops).2 l.toList := by
  unfold Region.closedB closedT
  rw [rtab_length]
  congr 1
  funext j
  rw [gd]
  cases h : ops[j]? with
  | none => rw [rtab_none h]
  | some o =>
    rw [rtab_some h]
    simp only
    rw [← needs_all]
    simp only [gd]
theorem reach_eq : ∀ (fuel d : Nat), Region.reachB md ops i fuel d = reachT (rtab md ops).2 i fuel d
  | 0, _ => rfl
  | fuel + 1, d => by
    unfold Region.reachB reachT
    cases h : ops[d]? with
    | none => rw [rtab_none h]
    | some o =>
      rw [rtab_some h]
      simp only
      rw [← needs_any]
      congr 1
      funext e
      rw [reach_eq fuel]
theorem last_eq : Region.lastB md ops l ds i = lastT (rtab md ops).2 l.toList ds i := by
  unfold Region.lastB lastT
  rw [rtab_length]
  congr 1
  funext d
  rw [gd, reach_eq]
theorem readyAt_mem (h : readyAt T.2 l.toList i = true) (hT : rtab md ops = T) : (Region.ready md ops l).contains i = true := by
  subst hT
  rw [ready_eq]
  unfold readyT
  rw [List.contains_iff_mem, List.mem_filter, List.mem_range]
  refine ⟨?_, h⟩
  unfold readyAt at h
  rw [Bool.and_eq_true] at h
  cases hq : (rtab md ops).2[i]? with
  | none => rw [hq] at h; simp at h
  | some r => exact (List.getElem?_eq_some_iff.1 hq).1
theorem set_of (h : (l.toList.set i true == l'.toList) = true) : (l.setIfInBounds i true == l') = true := by
  rw [beq_iff_eq] at h ⊢
  apply Array.ext'
  rw [Array.toList_setIfInBounds]
  exact h
def anyT (T : Bool × List (List Nat × List Nat)) (l l' : List Bool) (i : Nat) : Bool := T.1 && freeT T.2 l i && readyAt T.2 l i && (l.set i true == l')
/-- pure_'s condition out of the table. -/
theorem any_of (hT : rtab md ops = T) (h : anyT T l.toList l'.toList i = true) : anyB md ops l l' i = true := by
  simp only [anyT, Bool.and_eq_true] at h
  obtain ⟨⟨⟨h1, h2⟩, h3⟩, h4⟩ := h
  have h5 := readyAt_mem h3 hT
  have h6 := set_of h4
  subst hT
  simp only [anyB, Bool.and_eq_true]
  exact ⟨⟨⟨h1, by rw [free_eq]; exact h2⟩, h5⟩, h6⟩
def takeT (T : Bool × List (List Nat × List Nat)) (ds : List Nat) (l l' : List Bool) (i : Nat) : Bool := T.1 && freeT T.2 l i && readyAt T.2 l i && closedT T.2 l && lastT T.2 l ds i && (l.set i true == l')
/-- take_'s. -/
theorem take_of (hT : rtab md ops = T) (h : takeT T ds l.toList l'.toList i = true) : takeB md ops ds l l' i = true := by
  simp only [takeT, Bool.and_eq_true] at h
  obtain ⟨⟨⟨⟨⟨h1, h2⟩, h3⟩, h4⟩, h5⟩, h6⟩ := h
  have h7 := readyAt_mem h3 hT
  have h8 := set_of h6
  subst hT
  simp only [takeB, Bool.and_eq_true]
  exact ⟨⟨⟨⟨⟨h1, by rw [free_eq]; exact h2⟩, h7⟩, by rw [closed_eq]; exact h4⟩, by rw [last_eq]; exact h5⟩, h8⟩
/-- one_'s and last_'s. -/
theorem one_of (hT : rtab md ops = T) (h : (readyT T.2 l.toList == [i] && l.toList.set i true == l'.toList) = true) : readyB md ops l l' i = true := by
  simp only [Bool.and_eq_true] at h
  obtain ⟨h1, h2⟩ := h
  subst hT
  simp only [readyB, Bool.and_eq_true]
  exact ⟨by rw [ready_eq]; exact h1, set_of h2⟩
/-- done_'s. -/
theorem done_of (hT : rtab md ops = T) (h : (readyT T.2 l.toList == []) = true) : (Region.ready md ops l == []) = true := by
  subst hT
  rw [ready_eq]
  exact h
/-- What d waits for, as_ bits: told in the table (B), checked in one pass: each bit is a need of d, or a bit of an earlier need's. -/
def upM (B : List Nat) (d : Nat) : List Nat → Nat
  | [] => 0
  | n :: r => (2 ^ n ||| (if n < d then B.getD n 0 else 0)) ||| upM B d r
def waitsOk (T : List (List Nat × List Nat)) (B : List Nat) : Bool := (List.range T.length).all fun d => match T[d]? with
  | some r => (B.getD d 0 ||| upM B d r.1) == upM B d r.1
  | none => false
theorem upM_bit {B : List Nat} {d i : Nat} : ∀ {ns : List Nat}, (upM B d ns).testBit i = true → ∃ n ∈ ns, n = i ∨ (n < d ∧ (B.getD n 0).testBit i = true)
  | [], h => by simp [upM] at h
  | n :: r, h => by
    unfold upM at h
    rw [Nat.testBit_or, Nat.testBit_or, Bool.or_eq_true, Bool.or_eq_true] at h
    rcases h with (h | h) | h
    · rw [Nat.testBit_two_pow] at h
      exact ⟨n, List.mem_cons_self, .inl (by simpa using h)⟩
    · by_cases hn : n < d
      · rw [if_pos hn] at h
        exact ⟨n, List.mem_cons_self, .inr ⟨hn, h⟩⟩
      · rw [if_neg hn] at h
        simp at h
    · obtain ⟨m, hm, h2⟩ := upM_bit h
      exact ⟨m, List.mem_cons_of_mem _ hm, h2⟩
theorem reach_bit {T : List (List Nat × List Nat)} {B : List Nat} (hB : waitsOk T B = true) : ∀ (fuel d : Nat), d < fuel → d < T.length → (B.getD d 0).testBit i = true → reachT T i fuel d = true
  | 0, d, h, _, _ => by omega
  | fuel + 1, d, h, hd, hb => by
    have h1 := List.all_eq_true.1 hB d (List.mem_range.2 hd)
    cases hr : T[d]? with
    | none => rw [hr] at h1; simp at h1
    | some r =>
      rw [hr] at h1
      simp only [beq_iff_eq] at h1
      have h2 : (upM B d r.1).testBit i = true := by rw [← h1, Nat.testBit_or, hb, Bool.true_or]
      obtain ⟨n, hn, h3⟩ := upM_bit h2
      unfold reachT
      rw [hr]
      simp only
      rw [List.any_eq_true]
      refine ⟨n, hn, ?_⟩
      rcases h3 with rfl | ⟨h4, h5⟩
      · simp
      · rw [reach_bit hB fuel n (by omega) (by omega) h5, Bool.or_true]
def lastW (T : List (List Nat × List Nat)) (B : List Nat) (l : List Bool) (ds : List Nat) (i : Nat) : Bool := ds.all fun d => l.getD d true || (decide (d < T.length) && (B.getD d 0).testBit i)
def takeW (T : Bool × List (List Nat × List Nat)) (B : List Nat) (ds : List Nat) (l l' : List Bool) (i : Nat) : Bool := T.1 && freeT T.2 l i && readyAt T.2 l i && closedT T.2 l && lastW T.2 B l ds i && (l.set i true == l')
/-- take_'s, by the bits. -/
theorem take_ofW {B : List Nat} (hT : rtab md ops = T) (hB : waitsOk T.2 B = true) (h : takeW T B ds l.toList l'.toList i = true) : takeB md ops ds l l' i = true := by
  refine take_of hT ?_
  simp only [takeW, takeT, Bool.and_eq_true] at h ⊢
  obtain ⟨⟨⟨⟨⟨h1, h2⟩, h3⟩, h4⟩, h5⟩, h6⟩ := h
  refine ⟨⟨⟨⟨⟨h1, h2⟩, h3⟩, h4⟩, ?_⟩, h6⟩
  unfold lastW at h5
  unfold lastT
  rw [List.all_eq_true] at h5 ⊢
  intro d hd
  have h7 := h5 d hd
  rw [Bool.or_eq_true, Bool.and_eq_true, decide_eq_true_eq] at h7
  rcases h7 with h7 | ⟨h8, h9⟩
  · rw [h7, Bool.true_or]
  · rw [reach_bit hB _ d h8 h8 h9, Bool.or_true]
theorem with_tabW {P : Program} {Q : Exit → Act → World → Prop} {S : World → Prop} {n : Nat} {a : Act} {w : World} {B : List Nat} (hT : rtab md ops = T) (hB : waitsOk T.2 B = true) (h : Aside0 (rtab md ops = T) → Aside0 (waitsOk T.2 B = true) → wpAnyLast P md ops Q S ds n l a w) : wpAnyLast P md ops Q S ds n l a w := h ⟨hT⟩ ⟨hB⟩
end
/-- The operations of a region, by its number. -/
def opsIn : Code → Nat → Option (Array Oper)
  | .region id ops _, k => if id == k then some ops else none
  | .seq a b, k => match opsIn a k with
    | some o => some o
    | none => opsIn b k
  | .cond _ a b, k => match opsIn a k with
    | some o => some o
    | none => opsIn b k
  | .block _ c, k => opsIn c k
  | .loop c, k => opsIn c k
  | .scope c, k => opsIn c k
  | .rangeFunc _ _ a b, k => match opsIn a k with
    | some o => some o
    | none => opsIn b k
  | _, _ => none
def opsOf (f : Func) (k : Nat) : Array Oper := ((f.body.bind fun c => opsIn c k)).getD #[]
end Go.Proofs.Ythapikakneikbaa
/-! ### 57. A region of open order by ONE relation over what is listed so far: each operation is shown once, whatever came up before it -/
namespace Go.Proofs.Ythapikakneikbaa
/-- Number i is listed too. -/
def up (b : Nat → Bool) (i : Nat) : Nat → Bool := fun j => if j = i then true else b j
theorem up_self (b : Nat → Bool) (i : Nat) : up b i i = true := by simp [up]
theorem up_ne {b : Nat → Bool} {i j : Nat} (h : j ≠ i) : up b i j = b j := by simp [up, h]
/-- What is listed: O's operations by b, all else already. -/
def lof (n : Nat) (O : List Nat) (b : Nat → Bool) : List Bool := (List.range n).map fun j => if O.contains j then b j else true
/-- The destinations of what is listed are filled. -/
def putSel (a : Act) (b : Nat → Bool) : List (Nat × Tmp × Value) → Act
  | [] => a
  | e :: r => putSel (if b e.1 = true then a.put (some e.2.1) e.2.2 else a) b r
section
variable {P : Program} {ops : Array Oper} {Q : Exit → Act → World → Prop} {md : Region.Mode} {T : Bool × List (List Nat × List Nat)} {B : List Nat} {O : List Nat} {b : Nat → Bool} {i j n : Nat}
theorem lof_length : (lof n O b).length = n := by simp [lof]
theorem lof_get {d : Bool} (hj : j < n) : (lof n O b).getD j d = if O.contains j then b j else true := by
  simp [lof, List.getD_eq_getElem?_getD, hj]
theorem lof_up (hi : O.contains i = true) : (lof n O b).set i true = lof n O (up b i) := by
  apply List.ext_getElem?
  intro j
  by_cases hj : j < n
  · by_cases hij : i = j
    · subst hij
      have hl : i < (lof n O b).length := by rw [lof_length]; exact hj
      rw [List.getElem?_set_self hl]
      simp only [lof, List.getElem?_map, List.getElem?_range hj, Option.map_some, hi, if_true, up_self]
    · rw [List.getElem?_set_ne hij]
      simp only [lof, List.getElem?_map, List.getElem?_range hj, Option.map_some]
      rw [up_ne (Ne.symm hij)]
  · rw [List.getElem?_eq_none (by simp [lof]; omega), List.getElem?_eq_none (by simp [lof]; omega)]
/-- The step of operation i: out of the relation, it not being listed, all it waits for being so, and nothing that waits for it. -/
def StepAt (P : Program) (ops : Array Oper) (Q : Exit → Act → World → Prop) (B : List Nat) (O : List Nat) (I : (Nat → Bool) → Act → World → Prop) (i : Nat) : Prop :=
  ∀ b a w, I b a w → b i = false → (∀ j, (O.contains j && (B.getD i 0).testBit j) = true → b j = true) → (∀ d, (O.contains d && (B.getD d 0).testBit i) = true → b d = false) →
    ∃ oi, ops[i]? = some oi ∧ ∀ K : Act → World → Prop, Shut (∀ a' w', I (up b i) a' w' → K a' w') → if Region.wanted oi (yielded ops a.tmps) = true then Oper.wp P oi a w K Q else K (a.put oi.dst undef) w
theorem steps_nil {I : (Nat → Bool) → Act → World → Prop} : ∀ i ∈ ([] : List Nat), StepAt P ops Q B O I i := fun _ h => by cases h
theorem steps_cons {I : (Nat → Bool) → Act → World → Prop} {rs : List Nat} (h : StepAt P ops Q B O I i) (hs : ∀ j ∈ rs, StepAt P ops Q B O I j) : ∀ j ∈ i :: rs, StepAt P ops Q B O I j := fun j hj => by
  rcases List.mem_cons.1 hj with rfl | hj
  · exact h
  · exact hs j hj
/-- Every edge goes to an earlier operation; what is listed already waits for nothing of O; O's numbers are the region's, each once. -/
def baseOk (T : List (List Nat × List Nat)) (O : List Nat) : Bool :=
  (List.range T.length).all (fun d => match T[d]? with
    | some r => (O.contains d || r.1.all fun n => !O.contains n) && r.1.all fun n => decide (n < d)
    | none => false) && O.all (fun i => decide (i < T.length)) && decide O.Nodup
theorem baseOk_row {T : List (List Nat × List Nat)} (h : baseOk T O = true) {d : Nat} {r : List Nat × List Nat} (hr : T[d]? = some r) : (O.contains d = false → ∀ n ∈ r.1, O.contains n = false) ∧ ∀ n ∈ r.1, n < d := by
  simp only [baseOk, Bool.and_eq_true] at h
  have h1 := List.all_eq_true.1 h.1.1 d (List.mem_range.2 (List.getElem?_eq_some_iff.1 hr).1)
  rw [hr] at h1
  simp only [Bool.and_eq_true, Bool.or_eq_true, List.all_eq_true, decide_eq_true_eq] at h1
  refine ⟨fun hd n hn => ?_, h1.2⟩
  rcases h1.1 with h2 | h2
  · rw [hd] at h2; cases h2
  · simpa using h2 n hn
theorem baseOk_lt {T : List (List Nat × List Nat)} (h : baseOk T O = true) {i : Nat} (hi : i ∈ O) : i < T.length := by
  simp only [baseOk, Bool.and_eq_true] at h
  simpa using List.all_eq_true.1 h.1.2 i hi
theorem baseOk_nodup {T : List (List Nat × List Nat)} (h : baseOk T O = true) : O.Nodup := by
  simp only [baseOk, Bool.and_eq_true] at h
  exact of_decide_eq_true h.2
def Closed (T : List (List Nat × List Nat)) (O : List Nat) (b : Nat → Bool) : Prop := ∀ d r, T[d]? = some r → O.contains d = true → b d = true → ∀ n ∈ r.1, O.contains n = true → b n = true
/-- What waits for nothing of O has none of it in its bits. -/
theorem bits_out {T : List (List Nat × List Nat)} (hw : waitsOk T B = true) (hk : baseOk T O = true) : ∀ (m d : Nat), d ≤ m → d < T.length → O.contains d = false → ∀ j, (B.getD d 0).testBit j = true → O.contains j = false := by
  intro m
  induction m with
  | zero =>
    intro d hd hl hO j hj
    have hd0 : d = 0 := by omega
    subst hd0
    have hr : T[0]? = some T[0] := List.getElem?_eq_getElem hl
    have h1 := List.all_eq_true.1 hw 0 (List.mem_range.2 hl)
    rw [hr] at h1
    simp only [beq_iff_eq] at h1
    have h2 : (upM B 0 T[0].1).testBit j = true := by rw [← h1, Nat.testBit_or, hj, Bool.true_or]
    obtain ⟨n, hn, h3⟩ := upM_bit h2
    have := (baseOk_row hk hr).2 n hn
    omega
  | succ m ih =>
    intro d hd hl hO j hj
    have hr : T[d]? = some T[d] := List.getElem?_eq_getElem hl
    have h1 := List.all_eq_true.1 hw d (List.mem_range.2 hl)
    rw [hr] at h1
    simp only [beq_iff_eq] at h1
    have h2 : (upM B d T[d].1).testBit j = true := by rw [← h1, Nat.testBit_or, hj, Bool.true_or]
    obtain ⟨n, hn, h3⟩ := upM_bit h2
    have hO2 := (baseOk_row hk hr).1 hO n hn
    rcases h3 with rfl | ⟨h4, h5⟩
    · exact hO2
    · exact ih n (by omega) (by omega) hO2 j h5
theorem closed_bits {T : List (List Nat × List Nat)} (hw : waitsOk T B = true) (hk : baseOk T O = true) (hc : Closed T O b) : ∀ (m d : Nat), d ≤ m → d < T.length → O.contains d = true → b d = true → ∀ j, O.contains j = true → (B.getD d 0).testBit j = true → b j = true := by
  intro m
  induction m with
  | zero =>
    intro d hd hl hO hb j hjO hj
    have hd0 : d = 0 := by omega
    subst hd0
    have hr : T[0]? = some T[0] := List.getElem?_eq_getElem hl
    have h1 := List.all_eq_true.1 hw 0 (List.mem_range.2 hl)
    rw [hr] at h1
    simp only [beq_iff_eq] at h1
    have h2 : (upM B 0 T[0].1).testBit j = true := by rw [← h1, Nat.testBit_or, hj, Bool.true_or]
    obtain ⟨n, hn, h3⟩ := upM_bit h2
    have := (baseOk_row hk hr).2 n hn
    omega
  | succ m ih =>
    intro d hd hl hO hb j hjO hj
    have hr : T[d]? = some T[d] := List.getElem?_eq_getElem hl
    have h1 := List.all_eq_true.1 hw d (List.mem_range.2 hl)
    rw [hr] at h1
    simp only [beq_iff_eq] at h1
    have h2 : (upM B d T[d].1).testBit j = true := by rw [← h1, Nat.testBit_or, hj, Bool.true_or]
    obtain ⟨n, hn, h3⟩ := upM_bit h2
    rcases h3 with rfl | ⟨h4, h5⟩
    · exact hc d _ hr hO hb n hn hjO
    · cases hO2 : O.contains n with
      | true => exact ih n (by omega) (by omega) hO2 (hc d _ hr hO hb n hn hO2) j hjO h5
      | false =>
        have := bits_out hw hk n n (Nat.le_refl _) (by omega) hO2 j h5
        rw [hjO] at this
        cases this
theorem up_count : ∀ {O : List Nat}, O.Nodup → i ∈ O → b i = false → (O.filter fun j => !up b i j).length + 1 = (O.filter fun j => !b j).length
  | [], _, hi, _ => by cases hi
  | x :: r, hn, hi, hb => by
    rw [List.nodup_cons] at hn
    rcases List.mem_cons.1 hi with rfl | hi
    · have h1 : (r.filter fun j => !up b i j) = r.filter fun j => !b j := by
        refine List.filter_congr (fun j hj => ?_)
        rw [up_ne (fun e => hn.1 (by rw [← e]; exact hj))]
      rw [List.filter_cons, List.filter_cons]
      simp [up_self, hb, h1]
    · have hxi : x ≠ i := fun e => hn.1 (e ▸ hi)
      have h1 := up_count hn.2 hi hb
      rw [List.filter_cons, List.filter_cons, up_ne hxi]
      cases hbx : b x
      · simp only [Bool.not_false, if_true, List.length_cons]
        omega
      · simpa using h1
theorem inv_all (hT : rtab md ops = T) (hw : waitsOk T.2 B = true) (hk : baseOk T.2 O = true) (I : (Nat → Bool) → Act → World → Prop) (hs : ∀ i ∈ O, StepAt P ops Q B O I i)
    (hend : ∀ b a w, (∀ j, O.contains j = true → b j = true) → I b a w → Q .normal a w) :
    ∀ (m : Nat) (b : Nat → Bool) (a : Act) (w : World), (O.filter fun j => !b j).length = m → Closed T.2 O b → I b a w → wpAnyLast P md ops Q (fun _ => True) [] m (lof T.2.length O b).toArray a w := by
  subst hT
  have mem_ready' : ∀ {b : Nat → Bool} {i : Nat}, i ∈ Region.ready md ops (lof (rtab md ops).2.length O b).toArray → i < (rtab md ops).2.length ∧ O.contains i = true ∧ b i = false ∧ ∀ r, (rtab md ops).2[i]? = some r → ∀ n ∈ r.1, n < (rtab md ops).2.length → O.contains n = true → b n = true := by
    intro b i hi
    rw [ready_eq] at hi
    unfold readyT at hi
    rw [List.mem_filter, List.mem_range] at hi
    obtain ⟨hl, h1⟩ := hi
    unfold readyAt at h1
    rw [Bool.and_eq_true, lof_get hl] at h1
    obtain ⟨h2, h3⟩ := h1
    have h4 : O.contains i = true := by
      cases h : O.contains i with
      | true => rfl
      | false => rw [h] at h2; simp at h2
    rw [h4] at h2
    refine ⟨hl, h4, by simpa using h2, fun r hr n hn hnl hO => ?_⟩
    rw [hr] at h3
    simp only [List.all_eq_true] at h3
    have h5 := h3 n hn
    rw [lof_get hnl, hO] at h5
    simpa using h5
  intro m
  induction m with
  | zero =>
    intro b a w hm hc hI
    have hall : ∀ j, O.contains j = true → b j = true := by
      intro j hj
      cases hb : b j with
      | true => rfl
      | false =>
        have : j ∈ O.filter fun j => !b j := List.mem_filter.2 ⟨List.contains_iff_mem.1 hj, by simp [hb]⟩
        rw [List.eq_nil_of_length_eq_zero hm] at this
        cases this
    refine ⟨?_, hend b a w hall hI⟩
    refine List.eq_nil_iff_forall_not_mem.2 (fun i hi => ?_)
    obtain ⟨_, h1, h2, _⟩ := mem_ready' hi
    rw [hall i h1] at h2
    cases h2
  | succ m ih =>
    intro b a w hm hc hI
    refine ⟨fun hr => ?_, fun i hi => ?_⟩
    · exfalso
      -- the smallest number that isn't listed is ready
      have hex : ∃ i, O.contains i = true ∧ b i = false := by
        cases hf : O.filter (fun j => !b j) with
        | nil => rw [hf] at hm; simp at hm
        | cons x r =>
          have hx : x ∈ O.filter (fun j => !b j) := by rw [hf]; exact List.mem_cons_self
          rw [List.mem_filter] at hx
          exact ⟨x, List.contains_iff_mem.2 hx.1, by simpa using hx.2⟩
      have hmin : ∀ k, (∃ i, i ≤ k ∧ O.contains i = true ∧ b i = false) → ∃ i, O.contains i = true ∧ b i = false ∧ ∀ j, j < i → O.contains j = true → b j = true := by
        intro k
        induction k with
        | zero =>
          rintro ⟨i, hi, h1, h2⟩
          exact ⟨i, h1, h2, fun j hj => by omega⟩
        | succ k ihk =>
          rintro ⟨i, hi, h1, h2⟩
          by_cases hlow : ∃ j, j ≤ k ∧ O.contains j = true ∧ b j = false
          · exact ihk hlow
          · refine ⟨i, h1, h2, fun j hj hO => ?_⟩
            cases hb : b j with
            | true => rfl
            | false => exact absurd ⟨j, by omega, hO, hb⟩ hlow
      obtain ⟨i0, h1, h2⟩ := hex
      obtain ⟨i, hO, hb, hlow⟩ := hmin i0 ⟨i0, Nat.le_refl _, h1, h2⟩
      have hl := baseOk_lt hk (List.contains_iff_mem.1 hO)
      have hin : i ∈ Region.ready md ops (lof (rtab md ops).2.length O b).toArray := by
        rw [ready_eq]
        unfold readyT
        rw [List.mem_filter, List.mem_range]
        refine ⟨hl, ?_⟩
        unfold readyAt
        rw [lof_get hl, hO, hb]
        have hr2 : (rtab md ops).2[i]? = some (rtab md ops).2[i] := List.getElem?_eq_getElem hl
        rw [hr2]
        simp only [if_true, Bool.not_false, Bool.true_and, List.all_eq_true]
        intro n hn
        have hni := (baseOk_row hk hr2).2 n hn
        rw [lof_get (by omega)]
        cases hOn : O.contains n with
        | true => simpa using hlow n hni hOn
        | false => simp
      rw [hr] at hin
      cases hin
    · obtain ⟨hl, hO, hb, hneed⟩ := mem_ready' hi
      have hon : ∀ j, (O.contains j && (B.getD i 0).testBit j) = true → b j = true := by
        intro j hj
        rw [Bool.and_eq_true] at hj
        have hr2 : (rtab md ops).2[i]? = some (rtab md ops).2[i] := List.getElem?_eq_getElem hl
        have h1 := List.all_eq_true.1 hw i (List.mem_range.2 hl)
        rw [hr2] at h1
        simp only [beq_iff_eq] at h1
        have h2 : (upM B i (rtab md ops).2[i].1).testBit j = true := by rw [← h1, Nat.testBit_or, hj.2, Bool.true_or]
        obtain ⟨n, hn, h3⟩ := upM_bit h2
        have hni := (baseOk_row hk hr2).2 n hn
        rcases h3 with rfl | ⟨h4, h5⟩
        · exact hneed _ hr2 n hn (by omega) hj.1
        · cases hO2 : O.contains n with
          | true => exact closed_bits hw hk hc n n (Nat.le_refl _) (by omega) hO2 (hneed _ hr2 n hn (by omega) hO2) j hj.1 h5
          | false =>
            have := bits_out hw hk n n (Nat.le_refl _) (by omega) hO2 j h5
            rw [hj.1] at this
            cases this
      have hoff : ∀ d, (O.contains d && (B.getD d 0).testBit i) = true → b d = false := by
        intro d hd
        rw [Bool.and_eq_true] at hd
        cases hbd : b d with
        | false => rfl
        | true =>
          have hdl := baseOk_lt hk (List.contains_iff_mem.1 hd.1)
          have := closed_bits hw hk hc d d (Nat.le_refl _) hdl hd.1 hbd i hO hd.2
          rw [hb] at this
          cases this
      obtain ⟨oi, hoi, hK⟩ := hs i (List.contains_iff_mem.1 hO) b a w hI hb hon hoff
      refine wpOp_step hoi (fun K' hK' => hK K' (fun a' w' hI' => hK' a' w' ⟨fun _ _ => trivial, ?_⟩))
      have hset : (lof (rtab md ops).2.length O b).toArray.setIfInBounds i true = (lof (rtab md ops).2.length O (up b i)).toArray := by
        apply Array.ext'
        rw [Array.toList_setIfInBounds]
        exact lof_up hO
      rw [hset]
      refine ih (up b i) a' w' ?_ ?_ hI'
      · have := up_count (baseOk_nodup hk) (List.contains_iff_mem.1 hO) hb
        omega
      · intro d r hr hOd hbd n hn hOn
        by_cases hni : n = i
        · rw [hni, up_self]
        · rw [up_ne hni]
          by_cases hdi : d = i
          · subst hdi
            exact hneed r hr n hn (by have := (baseOk_row hk hr).2 n hn; omega) hOn
          · rw [up_ne hdi] at hbd
            exact hc d r hr hOd hbd n hn hOn
/-! The frame: what is listed has its destination filled. -/
/-- A slot that no operation of the list fills. -/
theorem putSel_off {b : Nat → Bool} {t : Tmp} : ∀ {L : List (Nat × Tmp × Value)} {a : Act}, (L.all fun e => !(e.2.1 == t)) = true → (putSel a b L).tmps[t]? = a.tmps[t]?
  | [], _, _ => rfl
  | e :: r, a, h => by
    rw [List.all_cons, Bool.and_eq_true] at h
    have he : e.2.1 ≠ t := by simpa using h.1
    unfold putSel
    by_cases hb : b e.1 = true
    · rw [if_pos hb, putSel_off h.2]
      simp [Act.put, Array.getElem?_setIfInBounds_ne he]
    · rw [if_neg hb]
      exact putSel_off h.2
/-- A slot of a listed operation: k is its place in the list. -/
theorem putSel_on {b : Nat → Bool} {e : Nat × Tmp × Value} : ∀ {L : List (Nat × Tmp × Value)} {a : Act} (k : Nat), L[k]? = some e → ((L.drop (k + 1)).all fun x => !(x.2.1 == e.2.1)) = true → b e.1 = true → Nat.ble (e.2.1 + 1) a.tmps.size = true → (putSel a b L).tmps[e.2.1]? = some e.2.2
  | [], _, _, h, _, _, _ => by cases h
  | x :: r, a, 0, h, hd, hb, ht => by
    simp only [List.getElem?_cons_zero, Option.some.injEq] at h
    subst h
    unfold putSel
    rw [if_pos hb, putSel_off (by simpa using hd)]
    have ht2 : x.2.1 < a.tmps.size := Nat.le_of_ble_eq_true ht
    simp [Act.put, ht2]
  | x :: r, a, k + 1, h, hd, hb, ht => by
    unfold putSel
    refine putSel_on k (by simpa using h) (by simpa using hd) hb ?_
    by_cases hx : b x.1 = true
    · rw [if_pos hx]
      simpa [Act.put] using ht
    · rw [if_neg hx]
      exact ht
theorem put_comm {a : Act} {s t : Tmp} {u v : Value} (h : s ≠ t) : (a.put (some s) u).put (some t) v = (a.put (some t) v).put (some s) u := by
  simp only [Act.put]
  rw [Array.setIfInBounds_comm _ _ h]
theorem putSel_put {b : Nat → Bool} {t : Tmp} {v : Value} : ∀ {L : List (Nat × Tmp × Value)} {a : Act}, (L.all fun e => !(e.2.1 == t)) = true → (putSel a b L).put (some t) v = putSel (a.put (some t) v) b L
  | [], _, _ => rfl
  | e :: r, a, h => by
    rw [List.all_cons, Bool.and_eq_true] at h
    have he : e.2.1 ≠ t := by simpa using h.1
    unfold putSel
    by_cases hb : b e.1 = true
    · rw [if_pos hb, if_pos hb, putSel_put h.2, put_comm he]
    · rw [if_neg hb, if_neg hb]
      exact putSel_put h.2
theorem putSel_same {b : Nat → Bool} {i : Nat} : ∀ {L : List (Nat × Tmp × Value)} {a : Act}, (L.all fun e => !(e.1 == i)) = true → putSel a (up b i) L = putSel a b L
  | [], _, _ => rfl
  | e :: r, a, h => by
    rw [List.all_cons, Bool.and_eq_true] at h
    have he : e.1 ≠ i := by simpa using h.1
    unfold putSel
    rw [up_ne he]
    exact putSel_same h.2
/-- Operation i (its entry stands between L1 and L2) is listed: its destination is filled with v, whatever stood in its entry. -/
theorem putSel_up {b : Nat → Bool} {i : Nat} {t : Tmp} {v0 v : Value} : ∀ {L1 L2 : List (Nat × Tmp × Value)} {a : Act}, b i = false → ((L1 ++ L2).all fun e => !(e.1 == i) && !(e.2.1 == t)) = true →
    (putSel a b (L1 ++ (i, t, v0) :: L2)).put (some t) v = putSel a (up b i) (L1 ++ (i, t, v) :: L2)
  | [], L2, a, hb, h => by
    simp only [List.nil_append] at h ⊢
    have h1 : (L2.all fun e => !(e.1 == i)) = true := List.all_eq_true.2 (fun e he => by have := List.all_eq_true.1 h e he; simp only [Bool.and_eq_true] at this; exact this.1)
    have h2 : (L2.all fun e => !(e.2.1 == t)) = true := List.all_eq_true.2 (fun e he => by have := List.all_eq_true.1 h e he; simp only [Bool.and_eq_true] at this; exact this.2)
    unfold putSel
    rw [if_neg (by rw [hb]; decide), if_pos (up_self b i), putSel_put h2, putSel_same h1]
  | e :: r, L2, a, hb, h => by
    simp only [List.cons_append, List.all_cons, Bool.and_eq_true] at h
    have he : e.1 ≠ i := by simpa using h.1.1
    simp only [List.cons_append]
    unfold putSel
    rw [up_ne he]
    exact putSel_up hb h.2
/-- The same by its place k in the list. -/
theorem putSel_upk {b : Nat → Bool} {i : Nat} {t : Tmp} {v0 v : Value} {a : Act} {L L' : List (Nat × Tmp × Value)} (k : Nat) (hb : b i = false) (hL : L[k]? = some (i, t, v0)) (hL' : L.set k (i, t, v) = L') (hd : ((L.take k ++ L.drop (k + 1)).all fun e => !(e.1 == i) && !(e.2.1 == t)) = true) :
    (putSel a b L).put (some t) v = putSel a (up b i) L' := by
  have hk := (List.getElem?_eq_some_iff.1 hL).1
  have h1 : L = L.take k ++ (i, t, v0) :: L.drop (k + 1) := by
    have h2 : L[k] = (i, t, v0) := (List.getElem?_eq_some_iff.1 hL).2
    rw [← h2, List.getElem_cons_drop, List.take_append_drop]
  have h3 : L' = L.take k ++ (i, t, v) :: L.drop (k + 1) := by rw [← hL', List.set_eq_take_append_cons_drop, if_pos hk]
  rw [h3]
  conv => lhs; rw [h1]
  exact putSel_up hb hd
/-- An operation without a destination. -/
theorem putSel_none {b : Nat → Bool} {i : Nat} {L : List (Nat × Tmp × Value)} {a : Act} {v : Value} (h : (L.all fun e => !(e.1 == i)) = true) : (putSel a b L).put none v = putSel a (up b i) L := (putSel_same h).symm
/-- THE REGION FROM HERE TO ITS END, by one relation I: l has all listed but O's operations; I holds with none of them listed; each step; with all listed what follows. -/
theorem inv_ {l : Array Bool} {fuel : Nat} {a : Act} {w : World} (O : List Nat) (I : (Nat → Bool) → Act → World → Prop) (hT : rtab md ops = T) (hw : waitsOk T.2 B = true) (hk : baseOk T.2 O = true)
    (hl : (lof T.2.length O (fun _ => false) == l.toList && O.length == fuel) = true) (h0 : I (fun _ => false) a w) (hs : ∀ i ∈ O, StepAt P ops Q B O I i)
    (hend : ∀ b a w, (∀ j, O.contains j = true → b j = true) → I b a w → Q .normal a w) : wpAnyLast P md ops Q (fun _ => True) [] fuel l a w := by
  rw [Bool.and_eq_true, beq_iff_eq, beq_iff_eq] at hl
  have h1 := inv_all hT hw hk I hs hend fuel (fun _ => false) a w (by rw [← hl.2]; simp) (fun d r _ _ hb => by cases hb) h0
  have h2 : (lof T.2.length O (fun _ => false)).toArray = l := by apply Array.ext'; exact hl.1
  rw [h2] at h1
  exact h1
/-- inv_ with the relation told from the frame that stands now (a0_). -/
theorem inv_at {l : Array Bool} {fuel : Nat} {a : Act} {w : World} (O : List Nat) (I : Act → (Nat → Bool) → Act → World → Prop) (hT : rtab md ops = T) (hw : waitsOk T.2 B = true) (hk : baseOk T.2 O = true)
    (hl : (lof T.2.length O (fun _ => false) == l.toList && O.length == fuel) = true) (h0 : I a (fun _ => false) a w) (hs : ∀ i ∈ O, StepAt P ops Q B O (I a) i)
    (hend : ∀ b a' w, (∀ j, O.contains j = true → b j = true) → I a b a' w → Q .normal a' w) : wpAnyLast P md ops Q (fun _ => True) [] fuel l a w := inv_ O (I a) hT hw hk hl h0 hs hend
end
end Go.Proofs.Ythapikakneikbaa
namespace Go.Proofs.Ythapikakneikbaa
section
variable {ops : Array Oper} {a : Act} {o og : Oper} {g : Nat} {t : Tmp} {u : Bool}
/-- An operand out of its slot. -/
theorem eval_of {v : Value} (h : a.tmps[t]? = some v) : a.eval (.tmp t) = v := by simp [Act.eval, h]
end
end Go.Proofs.Ythapikakneikbaa
/-
  selfstabworld.Net.link: a link is added to a graph that is being made. (Written by wip/gen/link.py.)
-/
namespace Go.Proofs.Ythapikakneikbaa
open Go.RowKit
set_option linter.unusedSimpArgs false
def addLink (back : Bool) (r : List Link) (l : Link) : List Link := if back then l :: r else r ++ [l]
/-- The ports when the link between ka and kb has been added, if there is none yet. -/
def linkRows (back : Bool) (rows : List (List Link)) (ka kb : Nat) (wt : Int) : List (List Link) :=
  if ka = kb ∨ linkedB rows ka kb = true then rows else (rows.set ka (addLink back (rows.getD ka []) ⟨kb, wt⟩)).set kb (addLink back (rows.getD kb []) ⟨ka, wt⟩)
def link.T6 : Bool × List (List Nat × List Nat) := (true, [([], []), ([0], [0]), ([], []), ([], []), ([3], [3]), ([], []), ([], []), ([6], [6]), ([], []), ([7, 8], [7, 8]), ([9], [9]), ([], []), ([11], [11]), ([10, 12], [10, 12]), ([], []), ([14], [14]), ([], []), ([15, 16], [15, 16]), ([17], [17]), ([], []), ([19], [19]), ([18, 20, 13], [18, 20]), ([1, 2, 0, 1, 2, 6, 7, 8, 9, 10, 11, 12, 13, 18, 21], [1, 2]), ([22, 13, 21, 0, 1, 2, 6, 7, 8, 9, 10, 11, 12, 13, 18, 21], [13, 22]), ([4, 5, 0, 1, 2, 3, 4, 5, 6, 7, 8, 9, 10, 11, 12, 13, 14, 15, 16, 17, 18, 19, 20, 21, 22, 23], [4, 5]), ([24, 21, 23, 0, 1, 2, 3, 4, 5, 6, 7, 8, 9, 10, 11, 12, 13, 14, 15, 16, 17, 18, 19, 20, 21, 22, 23], [21, 24])])
def link.B6 : List Nat := [0, 1, 0, 0, 8, 0, 0, 64, 0, 448, 960, 0, 2048, 8128, 0, 16384, 0, 114688, 245760, 0, 524288, 2097088, 4194247, 8388551, 16777215, 33554431]
theorem link.tab6 : rtab .any (opsOf Try.f115 6) = link.T6 := by kernel_rfl
theorem link.bits6 : waitsOk link.T6.2 link.B6 = true := by kernel_rfl
/-- What the walk has behind the call of 'linked' and the two links' variables. -/
structure LinkAt (W : World) (base P gz lz : Nat) (vs : List Value) (rows : List (List Link)) (ka kb : Nat) (wt : Int) : Prop where
  pa : PortsAt W base P vs rows
  e0 : W.cell? ⟨gz + 1, 1, none⟩ = some (.slice (some ⟨P, 0, none⟩) rows.length rows.length)
  e1 : W.cell? ⟨lz, 0, none⟩ = some (.int .i64 kb)
  e2 : W.cell? ⟨lz, 1, none⟩ = some (.int .i64 wt)
  e3 : W.cell? ⟨lz + 1, 0, none⟩ = some (.int .i64 ka)
  e4 : W.cell? ⟨lz + 1, 1, none⟩ = some (.int .i64 wt)
def LinkPost (base P : Nat) (rows' : List (List Link)) (w w' : World) (e : Ending) : Prop := e = .returned (.tuple #[]) ∧ (∃ vs', PortsAt w' base P vs' rows') ∧ Below base w w' ∧ Spared w w'
set_option maxHeartbeats 8000000 in
set_option maxRecDepth 100000 in
theorem link_calls (w : World) (N : Int) (vL vW vI : Value) (ap back : Bool) (v0 : Value) (base P : Nat) (vs : List Value) (rows : List (List Link)) (hp : PortsAt w base P vs rows) (hbase : base ≤ w.heap.size)
    (hn : rows.length ≤ 24) (hrl : ∀ r ∈ rows, r.length ≤ 1000) (ka kb : Nat) (ha : ka < rows.length) (hb : kb < rows.length) (wt : Int) :
    Calls Try.prog 115 #[.agg #[.int .i64 N, vL, vW, vI, .bool ap, .bool back], .agg #[v0, .slice (some ⟨P, 0, none⟩) rows.length rows.length], .int .i64 ka, .int .i64 kb, .int .i64 wt] w
      fun e w' => LinkPost base P (linkRows back rows ka kb wt) w w' e := by
  obtain ⟨i0, hi0, hz0, hz1, hz2⟩ := info_parts infoLink
  have HP := Lib.hid hp
  have HR := Lib.hid (hp.reads (by omega))
  have hPw := blk_lt hp.blk
  by_cases hab : ka = kb
  · have hE : Hid (linkRows back rows ka kb wt = rows) := by unfold Hid linkRows; rw [if_pos (.inl hab)]
    have t1 : ((ka : Int) == (kb : Int)) = true := by simp [hab]
    clear hab hp hrl
    go_enter Try.func115, Try.ntmps115
    go_wp2_with fail
    refine bodyPost_ret (v := .tuple #[]) (by simp [results, Try.results115, go_sem]) rfl ?_
    exact ⟨rfl, ⟨vs, by rw [hE.out]; exact (HP.out.alloc _).alloc _⟩, ((Below.refl _ _).alloc hbase _).alloc (by simp; omega) _, ((Spared.refl _).alloc _).alloc _⟩
  have t1 : ((ka : Int) == (kb : Int)) = false := by rw [beq_eq_false_iff_ne]; omega
  have hb0 := ((Below.refl w.heap.size w).alloc (Nat.le_refl _) (.cells #[.int .i64 N, vL, vW, vI, .bool ap, .bool back] 24)).alloc (by simp) (.cells #[v0, .slice (some ⟨P, 0, none⟩) rows.length rows.length] 27)
  have HR0 := Lib.hid (Kd.C_below HR.out hb0)
  have HB0 := Lib.hid hb0
  clear hb0
  cases hlk : linkedB rows ka kb with
  | true =>
    have hE : Hid (linkRows back rows ka kb wt = rows) := by unfold Hid linkRows; rw [if_pos (.inr hlk)]
    have HLK := Lib.hid hlk
    clear hlk hp hrl
    go_enter Try.func115, Try.ntmps115
    go_wp2_with fail
    refine (linked_calls _ _ _ _ _ HR0.out ka ha kb).mono ?_
    rintro e w1 ⟨rfl, hb1⟩
    rw [HLK.out]
    have HB1 := Lib.hid hb1
    clear hb1
    go_wp2_with fail
    refine bodyPost_ret (v := .tuple #[]) (by simp [results, Try.results115, go_sem]) rfl ?_
    exact ⟨rfl, ⟨vs, by rw [hE.out]; exact ((HP.out.alloc _).alloc _).below HB1.out⟩, (((Below.refl _ _).alloc hbase _).alloc (by simp; omega) _).trans (HB1.out.mono (by simp; omega)), (((Spared.refl _).alloc _).alloc _).below HB1.out⟩
  | false =>
    have HLK := Lib.hid hlk
    have hE : Hid (linkRows back rows ka kb wt = (rows.set ka (addLink back (rows.getD ka []) ⟨kb, wt⟩)).set kb (addLink back (rows.getD kb []) ⟨ka, wt⟩)) := by unfold Hid linkRows; rw [if_neg (by rintro (h | h); exact hab h; rw [h] at hlk; cases hlk)]
    have hvl : vs.length = rows.length := hp.rows.len
    obtain ⟨va, hva⟩ : ∃ va, vs[ka]? = some va := ⟨_, List.getElem?_eq_getElem (by omega)⟩
    obtain ⟨vb, hvb⟩ : ∃ vb, vs[kb]? = some vb := ⟨_, List.getElem?_eq_getElem (by omega)⟩
    obtain ⟨ra, hra⟩ : ∃ ra, rows[ka]? = some ra := ⟨_, List.getElem?_eq_getElem ha⟩
    obtain ⟨rb, hrb⟩ : ∃ rb, rows[kb]? = some rb := ⟨_, List.getElem?_eq_getElem hb⟩
    have HGa : Hid (rows.getD ka [] = ra) := by unfold Hid; simp [List.getD_eq_getElem?_getD, hra]
    have HGb : Hid (rows.getD kb [] = rb) := by unfold Hid; simp [List.getD_eq_getElem?_getD, hrb]
    have hla := hrl ra (List.mem_of_getElem? hra)
    have hlb := hrl rb (List.mem_of_getElem? hrb)
    have Ha := Lib.hid hva
    have HA := Lib.hid hva
    have Hb := Lib.hid hvb
    have HRa := Lib.hid hra
    have HRb := Lib.hid hrb
    have HLa := Lib.hid hla
    have HLb := Lib.hid hlb
    have Lta : Hid (∀ k, va.ownBlock = some k → k < w.heap.size) := own_lt (hp.rows.own ka va ra hva hra)
    have Ltb : Hid (∀ k, vb.ownBlock = some k → k < w.heap.size) := own_lt (hp.rows.own kb vb rb hvb hrb)
    have HBa : Hid (∀ k, va.ownBlock = some k → base ≤ k) := fun k hk => (own_typed (hp.rows.own ka va ra hva hra) k hk).1
    have HBb : Hid (∀ k, vb.ownBlock = some k → base ≤ k) := fun k hk => (own_typed (hp.rows.own kb vb rb hvb hrb) k hk).1
    have NPa : Hid (some P ≠ va.ownBlock) := fun e => hp.far va (List.mem_of_getElem? hva) e.symm
    have NPb : Hid (some P ≠ vb.ownBlock) := fun e => hp.far vb (List.mem_of_getElem? hvb) e.symm
    have hne1 : ka ≠ kb := hab
    have hne2 : kb ≠ ka := fun e => hab e.symm
    have haL : ka < vs.length := by omega
    have hbL : kb < vs.length := by omega
    have hPb := hp.hP
    have ha0 : (0 : Int) ≤ (ka : Int) := by omega
    have ha1 : (ka : Int) < (rows.length : Int) := by omega
    have hb0 : (0 : Int) ≤ (kb : Int) := by omega
    have hb1 : (kb : Int) < (rows.length : Int) := by omega
    clear hlk hp hrl hva hvb hra hrb hab hla hlb
    have KEY : Hid (∀ (lz : Nat) (W : World), LinkAt W base P w.heap.size lz vs rows ka kb wt → w.heap.size ≤ lz → lz + 2 = W.heap.size → True) := fun _ _ _ _ _ => trivial
    clear KEY
    cases back with
    | true =>
      go_enter Try.func115, Try.ntmps115
      go_wp2_with fail
      refine (linked_calls _ _ _ _ _ HR0.out ka ha kb).mono ?_
      rintro e w1 ⟨rfl, hb1⟩
      rw [HLK.out]
      have hzq := hb1.size
      simp only [World.size_alloc] at hzq
      have hcG := cell_b hb1 (cell_at_new (w := w.alloc (.cells #[.int .i64 N, vL, vW, vI, .bool ap, .bool true] 24)) (cs := #[v0, .slice (some ⟨P, 0, none⟩) rows.length rows.length]) (t := 27) (k := w.heap.size + 1) (j := 1) (by simp) rfl)
      have hcX := cell_b hb1 (cell_a (.cells #[v0, .slice (some ⟨P, 0, none⟩) rows.length rows.length] 27) (cell_at_new (w := w) (cs := #[.int .i64 N, vL, vW, vI, .bool ap, .bool true]) (t := 24) (k := w.heap.size) (j := 5) rfl rfl))
      have hPA := ((HP.out.alloc (.cells #[.int .i64 N, vL, vW, vI, .bool ap, .bool true] 24)).alloc (.cells #[v0, .slice (some ⟨P, 0, none⟩) rows.length rows.length] 27)).below hb1
      have HPA := Lib.hid hPA
      have HSF1 := Lib.hid ((((Spared.refl w).alloc (.cells #[.int .i64 N, vL, vW, vI, .bool ap, .bool true] 24)).alloc (.cells #[v0, .slice (some ⟨P, 0, none⟩) rows.length rows.length] 27)).below hb1)
      have HB1 := Lib.hid ((((Below.refl base w).alloc hbase _).alloc (by simp; omega) _).trans (hb1.mono (by simp; omega)))
      clear hb1 hPA HR0 HR HP HB0
      have hxw : w.heap.size < w1.heap.size := by omega
      go_wp2_with fail
      generalize hW : (w1.alloc _).alloc _ = W
      have cG : W.cell? ⟨w.heap.size + 1, 1, none⟩ = some (.slice (some ⟨P, 0, none⟩) rows.length rows.length) := by rw [← hW]; exact cell_a _ (cell_a _ hcG)
      have cL0 : W.cell? ⟨w1.heap.size, 0, none⟩ = some (.int .i64 kb) := by rw [← hW]; exact cell_a _ (cell_at_new rfl rfl)
      have cL1 : W.cell? ⟨w1.heap.size, 1, none⟩ = some (.int .i64 wt) := by rw [← hW]; exact cell_a _ (cell_at_new rfl rfl)
      have cM0 : W.cell? ⟨w1.heap.size + 1, 0, none⟩ = some (.int .i64 ka) := by rw [← hW]; exact cell_at_new (by simp) rfl
      have cM1 : W.cell? ⟨w1.heap.size + 1, 1, none⟩ = some (.int .i64 wt) := by rw [← hW]; exact cell_at_new (by simp) rfl
      have hPW0 : PortsAt W base P vs rows := by rw [← hW]; exact (HPA.out.alloc _).alloc _
      have blk0 := hPW0.blk
      have R0 := hPW0.rows.drew
      have hWz : W.heap.size = w1.heap.size + 2 := by rw [← hW]; simp
      have HBW : Hid (Below base w W) := by unfold Hid; rw [← hW]; exact (HB1.out.alloc (by omega) _).alloc (by simp; omega) _
      have HSFW : Hid (Spared w W) := by unfold Hid; rw [← hW]; exact (HSF1.out.alloc _).alloc _
      have hbW : base ≤ W.heap.size := by omega
      have hPW : P < W.heap.size := by omega
      have hPG : P ≠ w.heap.size + 1 := by omega
      have hPL : P ≠ w1.heap.size := by omega
      have hPM : P ≠ w1.heap.size + 1 := by omega
      have La : Hid (∀ k, va.ownBlock = some k → k < W.heap.size) := fun k hk => by have := Lta.out k hk; omega
      have Lb : Hid (∀ k, vb.ownBlock = some k → k < W.heap.size) := fun k hk => by have := Ltb.out k hk; omega
      clear hW hcG hcX
      have e0 := cG
      have e1 := cL0
      have e2 := cL1
      have e3 := cM0
      have e4 := cM1
      have e5 := port_cell blk0 HA.out
      have HR0 : Hid (Rows W base vs rows) := hPW0.rows
      have HB0 : Hid (W.heap[P]? = some (.cells vs.toArray 52 (0, 0))) := blk0
      have HWa := HA
      have HRWa := HRa
      have hGW : w.heap.size + 1 < W.heap.size := by omega
      have hLW : w1.heap.size < W.heap.size := by omega
      have hMW : w1.heap.size + 1 < W.heap.size := by omega
      clear cG cL0 cL1 cM0 cM1 blk0 R0 hPW0 hWz
      refine start_ (n := 13) (S := fun w' => w'.cell? ⟨w.heap.size + 1, 1, none⟩ = some (.slice (some ⟨P, 0, none⟩) rows.length rows.length) ∧ w'.cell? ⟨w1.heap.size, 0, none⟩ = some (.int .i64 kb) ∧ w'.cell? ⟨w1.heap.size, 1, none⟩ = some (.int .i64 wt) ∧ w'.cell? ⟨w1.heap.size + 1, 0, none⟩ = some (.int .i64 ka) ∧ w'.cell? ⟨w1.heap.size + 1, 1, none⟩ = some (.int .i64 wt) ∧ w'.cell? ⟨P, ka, none⟩ = some va) (ds := [12]) #[false, false, false, false, false, false, false, false, false, false, false, false, false] (by kernel_rfl) rfl rfl ⟨e0, e1, e2, e3, e4, e5⟩ (fun hHeld => ?_)
      refine pure_ (i := 0) (N := some 29) (v := ?_) (a' := ?_) #[true, false, false, false, false, false, false, false, false, false, false, false, false] rfl rfl (by kernel_rfl) (fun _ _ _ h => h) (Or.inl ⟨by rfl, ?_⟩) ?_ ?_
      rotate_left
      · intro w'
        go_simp
        with_reducible rfl
      rotate_left
      · simp only [Act.put, List.setIfInBounds_toArray, List.set_cons_zero, List.set_cons_succ, i64_w, i32_w]
        rfl
      refine pure_ (i := 2) (N := some 31) (v := ?_) (a' := ?_) #[true, false, true, false, false, false, false, false, false, false, false, false, false] rfl rfl (by kernel_rfl) (fun _ _ _ h => h) (Or.inl ⟨by rfl, ?_⟩) ?_ ?_
      rotate_left
      · intro w'
        go_simp
        with_reducible rfl
      rotate_left
      · simp only [Act.put, List.setIfInBounds_toArray, List.set_cons_zero, List.set_cons_succ, i64_w, i32_w]
        rfl
      refine pure_ (i := 5) (N := some 34) (v := ?_) (a' := ?_) #[true, false, true, false, false, true, false, false, false, false, false, false, false] rfl rfl (by kernel_rfl) (fun _ _ _ h => h) (Or.inl ⟨by rfl, ?_⟩) ?_ ?_
      rotate_left
      · intro w'
        go_simp
        with_reducible rfl
      rotate_left
      · simp only [Act.put, List.setIfInBounds_toArray, List.set_cons_zero, List.set_cons_succ, i64_w, i32_w]
        rfl
      refine pure_ (i := 7) (N := some 36) (v := ?_) (a' := ?_) #[true, false, true, false, false, true, false, true, false, false, false, false, false] rfl rfl (by kernel_rfl) (fun _ _ _ h => h) (Or.inl ⟨by rfl, ?_⟩) ?_ ?_
      rotate_left
      · intro w'
        go_simp
        with_reducible rfl
      rotate_left
      · simp only [Act.put, List.setIfInBounds_toArray, List.set_cons_zero, List.set_cons_succ, i64_w, i32_w]
        rfl
      refine take_ (i := 1) (N := some 30) (v := ?_) (a' := ?_) #[true, true, true, false, false, true, false, true, false, false, false, false, false] rfl rfl (by kernel_rfl) (fun _ _ _ h => h) (Or.inl ⟨by rfl, ?_⟩) hHeld ?_ ?_
      rotate_left
      · rintro w' ⟨s0, s1, s2, s3, s4, s5⟩
        go_simp
        with_reducible rfl
      rotate_left
      · simp only [Act.put, List.setIfInBounds_toArray, List.set_cons_zero, List.set_cons_succ, i64_w, i32_w]
        rfl
      refine take_ (i := 3) (N := some 32) (v := ?_) (a' := ?_) #[true, true, true, true, false, true, false, true, false, false, false, false, false] rfl rfl (by kernel_rfl) (fun _ _ _ h => h) (Or.inl ⟨by rfl, ?_⟩) hHeld ?_ ?_
      rotate_left
      · rintro w' ⟨s0, s1, s2, s3, s4, s5⟩
        go_simp
        with_reducible rfl
      rotate_left
      · simp only [Act.put, List.setIfInBounds_toArray, List.set_cons_zero, List.set_cons_succ, i64_w, i32_w]
        rfl
      refine take_ (i := 6) (N := some 35) (v := ?_) (a' := ?_) #[true, true, true, true, false, true, true, true, false, false, false, false, false] rfl rfl (by kernel_rfl) (fun _ _ _ h => h) (Or.inl ⟨by rfl, ?_⟩) hHeld ?_ ?_
      rotate_left
      · rintro w' ⟨s0, s1, s2, s3, s4, s5⟩
        go_simp
        with_reducible rfl
      rotate_left
      · simp only [Act.put, List.setIfInBounds_toArray, List.set_cons_zero, List.set_cons_succ, i64_w, i32_w]
        rfl
      refine pure_ (i := 8) (N := some 37) (v := ?_) (a' := ?_) #[true, true, true, true, false, true, true, true, true, false, false, false, false] rfl rfl (by kernel_rfl) (fun _ _ _ h => h) (Or.inl ⟨by rfl, ?_⟩) ?_ ?_
      rotate_left
      · intro w'
        go_simp
        with_reducible rfl
      rotate_left
      · simp only [Act.put, List.setIfInBounds_toArray, List.set_cons_zero, List.set_cons_succ, i64_w, i32_w]
        rfl
      refine take_ (i := 9) (N := some 38) (v := ?_) (a' := ?_) #[true, true, true, true, false, true, true, true, true, true, false, false, false] rfl rfl (by kernel_rfl) (fun _ _ _ h => h) (Or.inl ⟨by rfl, ?_⟩) hHeld ?_ ?_
      rotate_left
      · rintro w' ⟨s0, s1, s2, s3, s4, s5⟩
        go_simp
        with_reducible rfl
      rotate_left
      · simp only [Act.put, List.setIfInBounds_toArray, List.set_cons_zero, List.set_cons_succ, i64_w, i32_w]
        rfl
      refine one_ (i := 4) (N := some 33) #[true, true, true, true, true, true, true, true, true, true, false, false, false] rfl rfl (by kernel_rfl) (by decide) (fun K hK => ?_)
      refine value_ (w1 := ?_) (v := ?_) (by rfl) rfl ?_ ?_
      rotate_left 2
      · go_simp
        constructor
        · rfl
        · rfl
      refine hK.out _ _ ⟨cell_a _ hHeld.1, cell_a _ hHeld.2.1, cell_a _ hHeld.2.2.1, cell_a _ hHeld.2.2.2.1, cell_a _ hHeld.2.2.2.2.1, cell_a _ hHeld.2.2.2.2.2⟩ (fun hHeld => ?_)
      clear hK K
      refine norm_ (a' := ?_) ?_ ?_
      rotate_left
      · show Act.put _ (some 33) _ = _
        simp only [Act.put, List.setIfInBounds_toArray, List.set_cons_zero, List.set_cons_succ, i64_w, i32_w]
        rfl
      refine one_ (i := 10) (N := some 39) #[true, true, true, true, true, true, true, true, true, true, true, false, false] rfl rfl (by kernel_rfl) (by decide) (fun K hK => ?_)
      refine step_append_row (by rfl) (.tmp 33) (.tmp 38) _ (by rfl) base 60 i0 _ 2 16 Try.underlying52 hi0 hz0 hz1 hz2 rfl (by omega) (.slice (some ⟨W.heap.size, 0, none⟩) 1 1) 1 (lcells [⟨kb, wt⟩]) (by rfl) (own_fresh (l := ⟨kb, wt⟩) (heap_alloc_new W.drew _) hbW) (by omega) va ra.length (lcells ra) (by rfl) ((HR0.out.drew.alloc _).own ka va ra HWa.out HRWa.out) (HR0.out.nil ka va ra HWa.out HRWa.out) (lcells_oneCell _) (by have := HLa.out; unfold maxLen; omega) (by have := HLa.out; omega) (by simp; omega) ?_
      intro g1 capg1 w2 hown1 hgrow1 hat1 hlt1
      have HGw2 : Hid (W.grownBy w2 va.ownBlock) := ⟨hgrow1.os, hgrow1.tape, hgrow1.output, Nat.le_trans (by simp) hgrow1.size, fun q hq _ => (hgrow1.block q (by simp; omega) (by simp [Value.ownBlock]; omega)).trans (Below.heap_alloc _ _ _ hq)⟩
      have HRw2 : Hid (Rows w2 base (vs.set ka (.slice (some ⟨g1, 0, none⟩) (1 + ra.length) capg1 : Value)) (rows.set ka ((⟨kb, wt⟩ : Link) :: ra))) := HR0.out.upd HWa.out HGw2.out (by show World.ownsRow _ _ _ _ _ (ra.length + 1) _; rw [show ra.length + 1 = 1 + ra.length from Nat.add_comm _ _]; exact hown1) (by simp) (.inr (.inr ⟨g1, rfl, by rcases hat1 with h | h <;> simp [Value.ownBlock] at h <;> omega⟩))
      have HPw2 : Hid (w2.heap[P]? = some (.cells vs.toArray 52 (0, 0))) := (HGw2.out.block P hPW NPa.out).trans HB0.out
      have HBBw2 : Hid (Below base W w2) := ((Below.refl base W).alloc (by omega) _).drew.grown hgrow1 (Nat.le_trans hbW (by simp)) (by intro q hq; simp [Value.ownBlock] at hq; omega)
      have HSFw2 : Hid (Spared W w2) := ((Spared.refl W).alloc _).drew.grown hgrow1 (fun k hk => ⟨_, (show W.heap.size = k by simpa [Value.ownBlock] using hk) ▸ heap_alloc_new _ _⟩)
      have hsw2 : W.heap.size < w2.heap.size := Nat.lt_of_lt_of_le (by simp) hgrow1.size
      have k0w2 := blk_free ka HPw2.out
      have k1w2 := port_cell HPw2.out HWa.out
      refine hK.out _ _ ⟨hgrow1.cell hHeld.1 (by simp [Value.ownBlock]; omega), hgrow1.cell hHeld.2.1 (by simp [Value.ownBlock]; omega), hgrow1.cell hHeld.2.2.1 (by simp [Value.ownBlock]; omega), hgrow1.cell hHeld.2.2.2.1 (by simp [Value.ownBlock]; omega), hgrow1.cell hHeld.2.2.2.2.1 (by simp [Value.ownBlock]; omega), hgrow1.cell hHeld.2.2.2.2.2 (by simp [Value.ownBlock]; omega)⟩ (fun hHeld => ?_)
      clear hK K
      refine norm_ (a' := ?_) ?_ ?_
      rotate_left
      · show Act.put _ (some 39) _ = _
        simp only [Act.put, List.setIfInBounds_toArray, List.set_cons_zero, List.set_cons_succ, i64_w, i32_w]
        rfl
      refine pure_ (i := 11) (N := some 40) (v := ?_) (a' := ?_) #[true, true, true, true, true, true, true, true, true, true, true, true, false] rfl rfl (by kernel_rfl) (fun _ _ _ h => h) (Or.inl ⟨by rfl, ?_⟩) ?_ ?_
      rotate_left
      · intro w'
        go_simp
        with_reducible rfl
      rotate_left
      · simp only [Act.put, List.setIfInBounds_toArray, List.set_cons_zero, List.set_cons_succ, i64_w, i32_w]
        rfl
      refine last_ (i := 12) (N := none) #[true, true, true, true, true, true, true, true, true, true, true, true, true] rfl rfl (by kernel_rfl) (by decide) (fun K hK => ?_)
      refine skip_ (w1 := ?_) (by rfl) rfl ?_ ?_
      rotate_left
      · go_simp
        rfl
      refine hK.out _ _ ?_
      clear hK K
      refine done_ (by kernel_rfl) ?_
      obtain ⟨vsA, hvsA⟩ : ∃ vsA, vs.set ka (.slice (some ⟨g1, 0, none⟩) (1 + ra.length) capg1) = vsA := ⟨_, rfl⟩
      obtain ⟨rowsA, hrowsA⟩ : ∃ rowsA, rows.set ka ((⟨kb, wt⟩ : Link) :: ra) = rowsA := ⟨_, rfl⟩
      have HVS := Lib.hid hvsA
      have HRS := Lib.hid hrowsA
      generalize hW3 : w2.setCell _ _ = W3
      have f0 : W3.cell? ⟨w.heap.size + 1, 1, none⟩ = some (.slice (some ⟨P, 0, none⟩) rows.length rows.length) := by rw [← hW3]; exact cell_far hHeld.1 (by simp; omega)
      have f1 : W3.cell? ⟨w1.heap.size, 0, none⟩ = some (.int .i64 kb) := by rw [← hW3]; exact cell_far hHeld.2.1 (by simp; omega)
      have f2 : W3.cell? ⟨w1.heap.size, 1, none⟩ = some (.int .i64 wt) := by rw [← hW3]; exact cell_far hHeld.2.2.1 (by simp; omega)
      have f3 : W3.cell? ⟨w1.heap.size + 1, 0, none⟩ = some (.int .i64 ka) := by rw [← hW3]; exact cell_far hHeld.2.2.2.1 (by simp; omega)
      have f4 : W3.cell? ⟨w1.heap.size + 1, 1, none⟩ = some (.int .i64 wt) := by rw [← hW3]; exact cell_far hHeld.2.2.2.2.1 (by simp; omega)
      have HB3 : Hid (W3.heap[P]? = some (.cells vsA.toArray 52 (0, 0))) := by unfold Hid; rw [← hW3, ← hvsA]; exact port_set HPw2.out haL
      have HR3 : Hid (Rows W3 base vsA rowsA) := by unfold Hid; rw [← hW3, ← hvsA, ← hrowsA]; exact HRw2.out.store HPw2.out
      have hz3 : W3.heap.size = w2.heap.size := by rw [← hW3]; simp [World.setCell]
      have HBB3 : Hid (Below base W W3) := by unfold Hid; rw [← hW3]; exact HBBw2.out.setCell hPb _
      have HSF3 : Hid (Spared W W3) := by unfold Hid; rw [← hW3]; exact HSFw2.out.set HPw2.out
      have HW3b : Hid (vsA[kb]? = some vb) := by unfold Hid; rw [← hvsA, List.getElem?_set_ne hne1]; exact Hb.out
      have HRW3b : Hid (rowsA[kb]? = some rb) := by unfold Hid; rw [← hrowsA, List.getElem?_set_ne hne1]; exact HRb.out
      have f5 := port_cell HB3.out HW3b.out
      have hbW3 : base ≤ W3.heap.size := by omega
      have hPW3 : P < W3.heap.size := by omega
      have hGW3 : w.heap.size + 1 < W3.heap.size := by omega
      have hLW3 : w1.heap.size < W3.heap.size := by omega
      have hMW3 : w1.heap.size + 1 < W3.heap.size := by omega
      have hbA : kb < vsA.length := by rw [← hvsA]; simpa using hbL
      clear hW3 hHeld hvsA hrowsA k0w2 k1w2 e0 e1 e2 e3 e4 e5 hz3
      go_wp2_with fail
      refine start_ (n := 13) (S := fun w' => w'.cell? ⟨w.heap.size + 1, 1, none⟩ = some (.slice (some ⟨P, 0, none⟩) rows.length rows.length) ∧ w'.cell? ⟨w1.heap.size, 0, none⟩ = some (.int .i64 kb) ∧ w'.cell? ⟨w1.heap.size, 1, none⟩ = some (.int .i64 wt) ∧ w'.cell? ⟨w1.heap.size + 1, 0, none⟩ = some (.int .i64 ka) ∧ w'.cell? ⟨w1.heap.size + 1, 1, none⟩ = some (.int .i64 wt) ∧ w'.cell? ⟨P, kb, none⟩ = some vb) (ds := [12]) #[false, false, false, false, false, false, false, false, false, false, false, false, false] (by kernel_rfl) rfl rfl ⟨f0, f1, f2, f3, f4, f5⟩ (fun hHeld => ?_)
      refine pure_ (i := 0) (N := some 41) (v := ?_) (a' := ?_) #[true, false, false, false, false, false, false, false, false, false, false, false, false] rfl rfl (by kernel_rfl) (fun _ _ _ h => h) (Or.inl ⟨by rfl, ?_⟩) ?_ ?_
      rotate_left
      · intro w'
        go_simp
        with_reducible rfl
      rotate_left
      · simp only [Act.put, List.setIfInBounds_toArray, List.set_cons_zero, List.set_cons_succ, i64_w, i32_w]
        rfl
      refine pure_ (i := 2) (N := some 43) (v := ?_) (a' := ?_) #[true, false, true, false, false, false, false, false, false, false, false, false, false] rfl rfl (by kernel_rfl) (fun _ _ _ h => h) (Or.inl ⟨by rfl, ?_⟩) ?_ ?_
      rotate_left
      · intro w'
        go_simp
        with_reducible rfl
      rotate_left
      · simp only [Act.put, List.setIfInBounds_toArray, List.set_cons_zero, List.set_cons_succ, i64_w, i32_w]
        rfl
      refine pure_ (i := 5) (N := some 46) (v := ?_) (a' := ?_) #[true, false, true, false, false, true, false, false, false, false, false, false, false] rfl rfl (by kernel_rfl) (fun _ _ _ h => h) (Or.inl ⟨by rfl, ?_⟩) ?_ ?_
      rotate_left
      · intro w'
        go_simp
        with_reducible rfl
      rotate_left
      · simp only [Act.put, List.setIfInBounds_toArray, List.set_cons_zero, List.set_cons_succ, i64_w, i32_w]
        rfl
      refine pure_ (i := 7) (N := some 48) (v := ?_) (a' := ?_) #[true, false, true, false, false, true, false, true, false, false, false, false, false] rfl rfl (by kernel_rfl) (fun _ _ _ h => h) (Or.inl ⟨by rfl, ?_⟩) ?_ ?_
      rotate_left
      · intro w'
        go_simp
        with_reducible rfl
      rotate_left
      · simp only [Act.put, List.setIfInBounds_toArray, List.set_cons_zero, List.set_cons_succ, i64_w, i32_w]
        rfl
      refine take_ (i := 1) (N := some 42) (v := ?_) (a' := ?_) #[true, true, true, false, false, true, false, true, false, false, false, false, false] rfl rfl (by kernel_rfl) (fun _ _ _ h => h) (Or.inl ⟨by rfl, ?_⟩) hHeld ?_ ?_
      rotate_left
      · rintro w' ⟨s0, s1, s2, s3, s4, s5⟩
        go_simp
        with_reducible rfl
      rotate_left
      · simp only [Act.put, List.setIfInBounds_toArray, List.set_cons_zero, List.set_cons_succ, i64_w, i32_w]
        rfl
      refine take_ (i := 3) (N := some 44) (v := ?_) (a' := ?_) #[true, true, true, true, false, true, false, true, false, false, false, false, false] rfl rfl (by kernel_rfl) (fun _ _ _ h => h) (Or.inl ⟨by rfl, ?_⟩) hHeld ?_ ?_
      rotate_left
      · rintro w' ⟨s0, s1, s2, s3, s4, s5⟩
        go_simp
        with_reducible rfl
      rotate_left
      · simp only [Act.put, List.setIfInBounds_toArray, List.set_cons_zero, List.set_cons_succ, i64_w, i32_w]
        rfl
      refine take_ (i := 6) (N := some 47) (v := ?_) (a' := ?_) #[true, true, true, true, false, true, true, true, false, false, false, false, false] rfl rfl (by kernel_rfl) (fun _ _ _ h => h) (Or.inl ⟨by rfl, ?_⟩) hHeld ?_ ?_
      rotate_left
      · rintro w' ⟨s0, s1, s2, s3, s4, s5⟩
        go_simp
        with_reducible rfl
      rotate_left
      · simp only [Act.put, List.setIfInBounds_toArray, List.set_cons_zero, List.set_cons_succ, i64_w, i32_w]
        rfl
      refine pure_ (i := 8) (N := some 49) (v := ?_) (a' := ?_) #[true, true, true, true, false, true, true, true, true, false, false, false, false] rfl rfl (by kernel_rfl) (fun _ _ _ h => h) (Or.inl ⟨by rfl, ?_⟩) ?_ ?_
      rotate_left
      · intro w'
        go_simp
        with_reducible rfl
      rotate_left
      · simp only [Act.put, List.setIfInBounds_toArray, List.set_cons_zero, List.set_cons_succ, i64_w, i32_w]
        rfl
      refine take_ (i := 9) (N := some 50) (v := ?_) (a' := ?_) #[true, true, true, true, false, true, true, true, true, true, false, false, false] rfl rfl (by kernel_rfl) (fun _ _ _ h => h) (Or.inl ⟨by rfl, ?_⟩) hHeld ?_ ?_
      rotate_left
      · rintro w' ⟨s0, s1, s2, s3, s4, s5⟩
        go_simp
        with_reducible rfl
      rotate_left
      · simp only [Act.put, List.setIfInBounds_toArray, List.set_cons_zero, List.set_cons_succ, i64_w, i32_w]
        rfl
      refine one_ (i := 4) (N := some 45) #[true, true, true, true, true, true, true, true, true, true, false, false, false] rfl rfl (by kernel_rfl) (by decide) (fun K hK => ?_)
      refine value_ (w1 := ?_) (v := ?_) (by rfl) rfl ?_ ?_
      rotate_left 2
      · go_simp
        constructor
        · rfl
        · rfl
      refine hK.out _ _ ⟨cell_a _ hHeld.1, cell_a _ hHeld.2.1, cell_a _ hHeld.2.2.1, cell_a _ hHeld.2.2.2.1, cell_a _ hHeld.2.2.2.2.1, cell_a _ hHeld.2.2.2.2.2⟩ (fun hHeld => ?_)
      clear hK K
      refine norm_ (a' := ?_) ?_ ?_
      rotate_left
      · show Act.put _ (some 45) _ = _
        simp only [Act.put, List.setIfInBounds_toArray, List.set_cons_zero, List.set_cons_succ, i64_w, i32_w]
        rfl
      refine one_ (i := 10) (N := some 51) #[true, true, true, true, true, true, true, true, true, true, true, false, false] rfl rfl (by kernel_rfl) (by decide) (fun K hK => ?_)
      refine step_append_row (by rfl) (.tmp 45) (.tmp 50) _ (by rfl) base 60 i0 _ 2 16 Try.underlying52 hi0 hz0 hz1 hz2 rfl (by omega) (.slice (some ⟨W3.heap.size, 0, none⟩) 1 1) 1 (lcells [⟨ka, wt⟩]) (by rfl) (own_fresh (l := ⟨ka, wt⟩) (heap_alloc_new W3.drew _) hbW3) (by omega) vb rb.length (lcells rb) (by rfl) ((HR3.out.drew.alloc _).own kb vb rb HW3b.out HRW3b.out) (HR3.out.nil kb vb rb HW3b.out HRW3b.out) (lcells_oneCell _) (by have := HLb.out; unfold maxLen; omega) (by have := HLb.out; omega) (by simp; omega) ?_
      intro g2 capg2 w4 hown1 hgrow1 hat1 hlt1
      have HGw4 : Hid (W3.grownBy w4 vb.ownBlock) := ⟨hgrow1.os, hgrow1.tape, hgrow1.output, Nat.le_trans (by simp) hgrow1.size, fun q hq _ => (hgrow1.block q (by simp; omega) (by simp [Value.ownBlock]; omega)).trans (Below.heap_alloc _ _ _ hq)⟩
      have HRw4 : Hid (Rows w4 base (vsA.set kb (.slice (some ⟨g2, 0, none⟩) (1 + rb.length) capg2 : Value)) (rowsA.set kb ((⟨ka, wt⟩ : Link) :: rb))) := HR3.out.upd HW3b.out HGw4.out (by show World.ownsRow _ _ _ _ _ (rb.length + 1) _; rw [show rb.length + 1 = 1 + rb.length from Nat.add_comm _ _]; exact hown1) (by simp) (.inr (.inr ⟨g2, rfl, by rcases hat1 with h | h <;> simp [Value.ownBlock] at h <;> omega⟩))
      have HPw4 : Hid (w4.heap[P]? = some (.cells vsA.toArray 52 (0, 0))) := (HGw4.out.block P hPW3 NPb.out).trans HB3.out
      have HBBw4 : Hid (Below base W3 w4) := ((Below.refl base W3).alloc (by omega) _).drew.grown hgrow1 (Nat.le_trans hbW3 (by simp)) (by intro q hq; simp [Value.ownBlock] at hq; omega)
      have HSFw4 : Hid (Spared W3 w4) := ((Spared.refl W3).alloc _).drew.grown hgrow1 (fun k hk => ⟨_, (show W3.heap.size = k by simpa [Value.ownBlock] using hk) ▸ heap_alloc_new _ _⟩)
      have hsw4 : W3.heap.size < w4.heap.size := Nat.lt_of_lt_of_le (by simp) hgrow1.size
      have k0w4 := blk_free kb HPw4.out
      have k1w4 := port_cell HPw4.out HW3b.out
      refine hK.out _ _ ⟨hgrow1.cell hHeld.1 (by simp [Value.ownBlock]; omega), hgrow1.cell hHeld.2.1 (by simp [Value.ownBlock]; omega), hgrow1.cell hHeld.2.2.1 (by simp [Value.ownBlock]; omega), hgrow1.cell hHeld.2.2.2.1 (by simp [Value.ownBlock]; omega), hgrow1.cell hHeld.2.2.2.2.1 (by simp [Value.ownBlock]; omega), hgrow1.cell hHeld.2.2.2.2.2 (by simp [Value.ownBlock]; omega)⟩ (fun hHeld => ?_)
      clear hK K
      refine norm_ (a' := ?_) ?_ ?_
      rotate_left
      · show Act.put _ (some 51) _ = _
        simp only [Act.put, List.setIfInBounds_toArray, List.set_cons_zero, List.set_cons_succ, i64_w, i32_w]
        rfl
      refine pure_ (i := 11) (N := some 52) (v := ?_) (a' := ?_) #[true, true, true, true, true, true, true, true, true, true, true, true, false] rfl rfl (by kernel_rfl) (fun _ _ _ h => h) (Or.inl ⟨by rfl, ?_⟩) ?_ ?_
      rotate_left
      · intro w'
        go_simp
        with_reducible rfl
      rotate_left
      · simp only [Act.put, List.setIfInBounds_toArray, List.set_cons_zero, List.set_cons_succ, i64_w, i32_w]
        rfl
      refine last_ (i := 12) (N := none) #[true, true, true, true, true, true, true, true, true, true, true, true, true] rfl rfl (by kernel_rfl) (by decide) (fun K hK => ?_)
      refine skip_ (w1 := ?_) (by rfl) rfl ?_ ?_
      rotate_left
      · go_simp
        rfl
      refine hK.out _ _ ?_
      clear hK K
      refine done_ (by kernel_rfl) ?_
      go_wp2_with fail
      refine bodyPost_ret (v := .tuple #[]) (by simp [results, Try.results115, go_sem]) rfl ?_
      refine ⟨rfl, ⟨_, ⟨port_set HPw4.out hbA, ?_, hPb⟩⟩, (HBW.out.trans HBB3.out).trans (HBBw4.out.setCell hPb _), (HSFW.out.trans HSF3.out).trans (HSFw4.out.set HPw4.out)⟩
      rw [hE.out, HGa.out, HGb.out]
      show Rows _ base _ ((rows.set ka ((⟨kb, wt⟩ : Link) :: ra)).set kb ((⟨ka, wt⟩ : Link) :: rb))
      rw [HRS.out]
      exact HRw4.out.store HPw4.out
    | false =>
      go_enter Try.func115, Try.ntmps115
      go_wp2_with fail
      refine (linked_calls _ _ _ _ _ HR0.out ka ha kb).mono ?_
      rintro e w1 ⟨rfl, hb1⟩
      rw [HLK.out]
      have hzq := hb1.size
      simp only [World.size_alloc] at hzq
      have hcG := cell_b hb1 (cell_at_new (w := w.alloc (.cells #[.int .i64 N, vL, vW, vI, .bool ap, .bool false] 24)) (cs := #[v0, .slice (some ⟨P, 0, none⟩) rows.length rows.length]) (t := 27) (k := w.heap.size + 1) (j := 1) (by simp) rfl)
      have hcX := cell_b hb1 (cell_a (.cells #[v0, .slice (some ⟨P, 0, none⟩) rows.length rows.length] 27) (cell_at_new (w := w) (cs := #[.int .i64 N, vL, vW, vI, .bool ap, .bool false]) (t := 24) (k := w.heap.size) (j := 5) rfl rfl))
      have hPA := ((HP.out.alloc (.cells #[.int .i64 N, vL, vW, vI, .bool ap, .bool false] 24)).alloc (.cells #[v0, .slice (some ⟨P, 0, none⟩) rows.length rows.length] 27)).below hb1
      have HPA := Lib.hid hPA
      have HSF1 := Lib.hid ((((Spared.refl w).alloc (.cells #[.int .i64 N, vL, vW, vI, .bool ap, .bool false] 24)).alloc (.cells #[v0, .slice (some ⟨P, 0, none⟩) rows.length rows.length] 27)).below hb1)
      have HB1 := Lib.hid ((((Below.refl base w).alloc hbase _).alloc (by simp; omega) _).trans (hb1.mono (by simp; omega)))
      clear hb1 hPA HR0 HR HP HB0
      have hxw : w.heap.size < w1.heap.size := by omega
      go_wp2_with fail
      generalize hW : (w1.alloc _).alloc _ = W
      have cG : W.cell? ⟨w.heap.size + 1, 1, none⟩ = some (.slice (some ⟨P, 0, none⟩) rows.length rows.length) := by rw [← hW]; exact cell_a _ (cell_a _ hcG)
      have cL0 : W.cell? ⟨w1.heap.size, 0, none⟩ = some (.int .i64 kb) := by rw [← hW]; exact cell_a _ (cell_at_new rfl rfl)
      have cL1 : W.cell? ⟨w1.heap.size, 1, none⟩ = some (.int .i64 wt) := by rw [← hW]; exact cell_a _ (cell_at_new rfl rfl)
      have cM0 : W.cell? ⟨w1.heap.size + 1, 0, none⟩ = some (.int .i64 ka) := by rw [← hW]; exact cell_at_new (by simp) rfl
      have cM1 : W.cell? ⟨w1.heap.size + 1, 1, none⟩ = some (.int .i64 wt) := by rw [← hW]; exact cell_at_new (by simp) rfl
      have hPW0 : PortsAt W base P vs rows := by rw [← hW]; exact (HPA.out.alloc _).alloc _
      have blk0 := hPW0.blk
      have R0 := hPW0.rows.drew
      have hWz : W.heap.size = w1.heap.size + 2 := by rw [← hW]; simp
      have HBW : Hid (Below base w W) := by unfold Hid; rw [← hW]; exact (HB1.out.alloc (by omega) _).alloc (by simp; omega) _
      have HSFW : Hid (Spared w W) := by unfold Hid; rw [← hW]; exact (HSF1.out.alloc _).alloc _
      have hbW : base ≤ W.heap.size := by omega
      have hPW : P < W.heap.size := by omega
      have hPG : P ≠ w.heap.size + 1 := by omega
      have hPL : P ≠ w1.heap.size := by omega
      have hPM : P ≠ w1.heap.size + 1 := by omega
      have La : Hid (∀ k, va.ownBlock = some k → k < W.heap.size) := fun k hk => by have := Lta.out k hk; omega
      have Lb : Hid (∀ k, vb.ownBlock = some k → k < W.heap.size) := fun k hk => by have := Ltb.out k hk; omega
      have NGa : Hid (some (w.heap.size + 1) ≠ va.ownBlock) := fun e => by have := Lta.out _ e.symm; omega
      have NGb : Hid (some (w.heap.size + 1) ≠ vb.ownBlock) := fun e => by have := Ltb.out _ e.symm; omega
      have NLa : Hid (some w1.heap.size ≠ va.ownBlock) := fun e => by have := Lta.out _ e.symm; omega
      have NLb : Hid (some w1.heap.size ≠ vb.ownBlock) := fun e => by have := Ltb.out _ e.symm; omega
      have NMa : Hid (some (w1.heap.size + 1) ≠ va.ownBlock) := fun e => by have := Lta.out _ e.symm; omega
      have NMb : Hid (some (w1.heap.size + 1) ≠ vb.ownBlock) := fun e => by have := Ltb.out _ e.symm; omega
      have bel : Below base W W.drew := (Below.refl _ _).drew
      have siz : W.heap.size ≤ W.drew.heap.size := Nat.le_refl _
      have saf : Spared W W.drew := Spared.refl W
      clear hW hPW0 hcG hcX
      have HWZ := Lib.hid hWz
      clear hWz
      refine start_ (n := 26) (S := fun w' => True) (ds := []) #[false, false, false, false, false, false, false, false, false, false, false, false, false, false, false, false, false, false, false, false, false, false, false, false, false, false] (by kernel_rfl) rfl rfl trivial (fun hHeld => ?_)
      refine with_tabW link.tab6 link.bits6 (fun HT_ HW_ => ?_)
      refine inv_at [0, 1, 2, 3, 4, 5, 6, 7, 8, 9, 10, 11, 12, 13, 14, 15, 16, 17, 18, 19, 20, 21, 22, 23, 24, 25] (fun a0_ b a w' => ∃ (K1 : Nat) (K2 : Nat) (g1 : Nat) (cap1 : Nat) (g2 : Nat) (cap2 : Nat) (m12_ : Value) (m13_ : Value) (m20_ : Value) (m21_ : Value), a = putSel a0_ b [(0, 53, (.pointer (some ⟨w.heap.size + 1, 1, none⟩))), (1, 54, (.slice (some ⟨P, 0, none⟩) rows.length rows.length)), (2, 55, (.int .i64 ka)), (3, 56, (.pointer (some ⟨w.heap.size + 1, 1, none⟩))), (4, 57, (.slice (some ⟨P, 0, none⟩) rows.length rows.length)), (5, 58, (.int .i64 kb)), (6, 59, (.pointer (some ⟨w.heap.size + 1, 1, none⟩))), (7, 60, (.slice (some ⟨P, 0, none⟩) rows.length rows.length)), (8, 61, (.int .i64 ka)), (9, 62, (.pointer (some ⟨P, ka, none⟩))), (10, 63, va), (11, 64, (.agg #[(.int .i64 kb), (.int .i64 wt)])), (12, 65, m12_), (13, 66, m13_), (14, 67, (.pointer (some ⟨w.heap.size + 1, 1, none⟩))), (15, 68, (.slice (some ⟨P, 0, none⟩) rows.length rows.length)), (16, 69, (.int .i64 kb)), (17, 70, (.pointer (some ⟨P, kb, none⟩))), (18, 71, vb), (19, 72, (.agg #[(.int .i64 ka), (.int .i64 wt)])), (20, 73, m20_), (21, 74, m21_), (22, 75, (.pointer (some ⟨P, ka, none⟩))), (24, 76, (.pointer (some ⟨P, kb, none⟩)))] ∧ (w'.cell? ⟨w.heap.size + 1, 1, none⟩ = some (.slice (some ⟨P, 0, none⟩) rows.length rows.length)) ∧ (w'.cell? ⟨w1.heap.size, 0, none⟩ = some (.int .i64 kb)) ∧ (w'.cell? ⟨w1.heap.size, 1, none⟩ = some (.int .i64 wt)) ∧ (w'.cell? ⟨w1.heap.size + 1, 0, none⟩ = some (.int .i64 ka)) ∧ (w'.cell? ⟨w1.heap.size + 1, 1, none⟩ = some (.int .i64 wt)) ∧ (b 23 = false → w'.heap[P]? = some (.cells vs.toArray 52 (0, 0))) ∧ (b 23 = true → b 25 = false → w'.heap[P]? = some (.cells (vs.set ka (.slice (some ⟨g1, 0, none⟩) (ra.length + 1) cap1 : Value)).toArray 52 (0, 0))) ∧ (b 25 = true → w'.heap[P]? = some (.cells ((vs.set ka (.slice (some ⟨g1, 0, none⟩) (ra.length + 1) cap1 : Value)).set kb (.slice (some ⟨g2, 0, none⟩) (rb.length + 1) cap2 : Value)).toArray 52 (0, 0))) ∧ (b 13 = false → Rows w' base vs rows) ∧ (b 13 = true → b 21 = false → Rows w' base (vs.set ka (.slice (some ⟨g1, 0, none⟩) (ra.length + 1) cap1 : Value)) (rows.set ka (ra ++ [(⟨kb, wt⟩ : Link)]))) ∧ (b 21 = true → Rows w' base ((vs.set ka (.slice (some ⟨g1, 0, none⟩) (ra.length + 1) cap1 : Value)).set kb (.slice (some ⟨g2, 0, none⟩) (rb.length + 1) cap2 : Value)) ((rows.set ka (ra ++ [(⟨kb, wt⟩ : Link)])).set kb (rb ++ [(⟨ka, wt⟩ : Link)]))) ∧ (b 12 = true → b 13 = false → (W.heap.size ≤ K1 ∧ w'.heap[K1]? = some (.cells #[(.int .i64 kb), (.int .i64 wt)] 60 (0, 0)))) ∧ (b 20 = true → b 21 = false → (W.heap.size ≤ K2 ∧ w'.heap[K2]? = some (.cells #[(.int .i64 ka), (.int .i64 wt)] 60 (0, 0)))) ∧ (Below base W w') ∧ (W.heap.size ≤ w'.heap.size) ∧ (Spared W w') ∧ (b 12 = true → (m12_ : Value) = (.slice (some ⟨K1, 0, none⟩) 1 1 : Value)) ∧ (b 13 = true → (m13_ : Value) = (.slice (some ⟨g1, 0, none⟩) (ra.length + 1) cap1 : Value)) ∧ (b 20 = true → (m20_ : Value) = (.slice (some ⟨K2, 0, none⟩) 1 1 : Value)) ∧ (b 21 = true → (m21_ : Value) = (.slice (some ⟨g2, 0, none⟩) (rb.length + 1) cap2 : Value))) HT_.out HW_.out (by kernel_rfl) (by kernel_rfl) ?_ ?_ ?_
      · exact ⟨0, 0, 0, 0, 0, 0, .bool false, .bool false, .bool false, .bool false, by simp only [putSel, Bool.false_eq_true, if_false], cG, cL0, cL1, cM0, cM1, fun _ => blk0, fun h_ => absurd h_ (by decide), fun h_ => absurd h_ (by decide), fun _ => R0, fun h_ => absurd h_ (by decide), fun h_ => absurd h_ (by decide), fun h_ => absurd h_ (by decide), fun h_ => absurd h_ (by decide), bel, siz, saf, fun h_ => absurd h_ (by decide), fun h_ => absurd h_ (by decide), fun h_ => absurd h_ (by decide), fun h_ => absurd h_ (by decide)⟩
      · skip
        clear R0 bel blk0 cG cL0 cL1 cM0 cM1 saf siz
        refine steps_cons ?_ ?_
        · rintro b a w' ⟨K1, K2, g1, cap1, g2, cap2, m12_, m13_, m20_, m21_, ha, Q_cG, Q_cL0, Q_cL1, Q_cM0, Q_cM1, Q_blk0, Q_blk1, Q_blk2, Q_R0, Q_R1, Q_R2, Q_hK1, Q_hK2, Q_bel, Q_siz, Q_saf, Q_X12_, Q_X13_, Q_X20_, Q_X21_⟩ hb_ hon hoff
          refine ⟨_, rfl, fun K hK => ?_⟩
          have e6 : a.tmps[6]? = some ((.pointer (some ⟨w.heap.size + 1, 0, none⟩))) := by rw [ha]; exact (putSel_off rfl).trans rfl
          replace ha := Aside0.mk ha
          have cG := Aside0.mk Q_cG
          have cL0 := Aside0.mk Q_cL0
          have cL1 := Aside0.mk Q_cL1
          have cM0 := Aside0.mk Q_cM0
          have cM1 := Aside0.mk Q_cM1
          have blk0 := Aside0.mk (Q_blk0 (hoff 23 (by kernel_rfl)))
          have bel := Aside0.mk Q_bel
          have siz := Aside0.mk Q_siz
          have saf := Aside0.mk Q_saf
          refine value_ (w1 := w') (v := (.pointer (some ⟨w.heap.size + 1, 1, none⟩))) (by rfl) rfl ?_ ?_
          · go_simp
            (try simp only [i64_w])
            try rfl
          refine hK.out _ _ ⟨K1, K2, g1, cap1, g2, cap2, m12_, m13_, m20_, m21_, (by rw [ha.out]; exact putSel_upk 0 hb_ rfl rfl rfl), Q_cG, Q_cL0, Q_cL1, Q_cM0, Q_cM1, Q_blk0, fun h0_ _ => absurd ((hoff 23 (by kernel_rfl)).symm.trans h0_) (by decide), fun h0_ => absurd ((hoff 25 (by kernel_rfl)).symm.trans h0_) (by decide), Q_R0, Q_R1, Q_R2, Q_hK1, Q_hK2, Q_bel, Q_siz, Q_saf, Q_X12_, Q_X13_, Q_X20_, Q_X21_⟩
        refine steps_cons ?_ ?_
        · rintro b a w' ⟨K1, K2, g1, cap1, g2, cap2, m12_, m13_, m20_, m21_, ha, Q_cG, Q_cL0, Q_cL1, Q_cM0, Q_cM1, Q_blk0, Q_blk1, Q_blk2, Q_R0, Q_R1, Q_R2, Q_hK1, Q_hK2, Q_bel, Q_siz, Q_saf, Q_X12_, Q_X13_, Q_X20_, Q_X21_⟩ hb_ hon hoff
          refine ⟨_, rfl, fun K hK => ?_⟩
          have e53 : a.tmps[53]? = some ((.pointer (some ⟨w.heap.size + 1, 1, none⟩))) := by rw [ha]; exact putSel_on (e := (0, 53, (.pointer (some ⟨w.heap.size + 1, 1, none⟩)))) 0 rfl rfl (hon 0 (by kernel_rfl)) rfl
          replace ha := Aside0.mk ha
          have cG := Aside0.mk Q_cG
          have cL0 := Aside0.mk Q_cL0
          have cL1 := Aside0.mk Q_cL1
          have cM0 := Aside0.mk Q_cM0
          have cM1 := Aside0.mk Q_cM1
          have blk0 := Aside0.mk (Q_blk0 (hoff 23 (by kernel_rfl)))
          have bel := Aside0.mk Q_bel
          have siz := Aside0.mk Q_siz
          have saf := Aside0.mk Q_saf
          have q0 := cG.out
          refine value_ (w1 := w') (v := (.slice (some ⟨P, 0, none⟩) rows.length rows.length)) (by rfl) rfl ?_ ?_
          · go_simp
            (try simp only [i64_w])
            try rfl
          refine hK.out _ _ ⟨K1, K2, g1, cap1, g2, cap2, m12_, m13_, m20_, m21_, (by rw [ha.out]; exact putSel_upk 1 hb_ rfl rfl rfl), Q_cG, Q_cL0, Q_cL1, Q_cM0, Q_cM1, Q_blk0, fun h0_ _ => absurd ((hoff 23 (by kernel_rfl)).symm.trans h0_) (by decide), fun h0_ => absurd ((hoff 25 (by kernel_rfl)).symm.trans h0_) (by decide), Q_R0, Q_R1, Q_R2, Q_hK1, Q_hK2, Q_bel, Q_siz, Q_saf, Q_X12_, Q_X13_, Q_X20_, Q_X21_⟩
        refine steps_cons ?_ ?_
        · rintro b a w' ⟨K1, K2, g1, cap1, g2, cap2, m12_, m13_, m20_, m21_, ha, Q_cG, Q_cL0, Q_cL1, Q_cM0, Q_cM1, Q_blk0, Q_blk1, Q_blk2, Q_R0, Q_R1, Q_R2, Q_hK1, Q_hK2, Q_bel, Q_siz, Q_saf, Q_X12_, Q_X13_, Q_X20_, Q_X21_⟩ hb_ hon hoff
          refine ⟨_, rfl, fun K hK => ?_⟩
          have e2 : a.tmps[2]? = some ((.int .i64 ka)) := by rw [ha]; exact (putSel_off rfl).trans rfl
          replace ha := Aside0.mk ha
          have cG := Aside0.mk Q_cG
          have cL0 := Aside0.mk Q_cL0
          have cL1 := Aside0.mk Q_cL1
          have cM0 := Aside0.mk Q_cM0
          have cM1 := Aside0.mk Q_cM1
          have blk0 := Aside0.mk (Q_blk0 (hoff 23 (by kernel_rfl)))
          have bel := Aside0.mk Q_bel
          have siz := Aside0.mk Q_siz
          have saf := Aside0.mk Q_saf
          refine value_ (w1 := w') (v := (.int .i64 ka)) (by rfl) rfl ?_ ?_
          · go_simp
            (try simp only [i64_w])
            try rfl
          refine hK.out _ _ ⟨K1, K2, g1, cap1, g2, cap2, m12_, m13_, m20_, m21_, (by rw [ha.out]; exact putSel_upk 2 hb_ rfl rfl rfl), Q_cG, Q_cL0, Q_cL1, Q_cM0, Q_cM1, Q_blk0, fun h0_ _ => absurd ((hoff 23 (by kernel_rfl)).symm.trans h0_) (by decide), fun h0_ => absurd ((hoff 25 (by kernel_rfl)).symm.trans h0_) (by decide), Q_R0, Q_R1, Q_R2, Q_hK1, Q_hK2, Q_bel, Q_siz, Q_saf, Q_X12_, Q_X13_, Q_X20_, Q_X21_⟩
        refine steps_cons ?_ ?_
        · rintro b a w' ⟨K1, K2, g1, cap1, g2, cap2, m12_, m13_, m20_, m21_, ha, Q_cG, Q_cL0, Q_cL1, Q_cM0, Q_cM1, Q_blk0, Q_blk1, Q_blk2, Q_R0, Q_R1, Q_R2, Q_hK1, Q_hK2, Q_bel, Q_siz, Q_saf, Q_X12_, Q_X13_, Q_X20_, Q_X21_⟩ hb_ hon hoff
          refine ⟨_, rfl, fun K hK => ?_⟩
          have e6 : a.tmps[6]? = some ((.pointer (some ⟨w.heap.size + 1, 0, none⟩))) := by rw [ha]; exact (putSel_off rfl).trans rfl
          replace ha := Aside0.mk ha
          have cG := Aside0.mk Q_cG
          have cL0 := Aside0.mk Q_cL0
          have cL1 := Aside0.mk Q_cL1
          have cM0 := Aside0.mk Q_cM0
          have cM1 := Aside0.mk Q_cM1
          have bel := Aside0.mk Q_bel
          have siz := Aside0.mk Q_siz
          have saf := Aside0.mk Q_saf
          refine value_ (w1 := w') (v := (.pointer (some ⟨w.heap.size + 1, 1, none⟩))) (by rfl) rfl ?_ ?_
          · go_simp
            (try simp only [i64_w])
            try rfl
          refine hK.out _ _ ⟨K1, K2, g1, cap1, g2, cap2, m12_, m13_, m20_, m21_, (by rw [ha.out]; exact putSel_upk 3 hb_ rfl rfl rfl), Q_cG, Q_cL0, Q_cL1, Q_cM0, Q_cM1, Q_blk0, Q_blk1, fun h0_ => absurd ((hoff 25 (by kernel_rfl)).symm.trans h0_) (by decide), Q_R0, Q_R1, Q_R2, Q_hK1, Q_hK2, Q_bel, Q_siz, Q_saf, Q_X12_, Q_X13_, Q_X20_, Q_X21_⟩
        refine steps_cons ?_ ?_
        · rintro b a w' ⟨K1, K2, g1, cap1, g2, cap2, m12_, m13_, m20_, m21_, ha, Q_cG, Q_cL0, Q_cL1, Q_cM0, Q_cM1, Q_blk0, Q_blk1, Q_blk2, Q_R0, Q_R1, Q_R2, Q_hK1, Q_hK2, Q_bel, Q_siz, Q_saf, Q_X12_, Q_X13_, Q_X20_, Q_X21_⟩ hb_ hon hoff
          refine ⟨_, rfl, fun K hK => ?_⟩
          have e56 : a.tmps[56]? = some ((.pointer (some ⟨w.heap.size + 1, 1, none⟩))) := by rw [ha]; exact putSel_on (e := (3, 56, (.pointer (some ⟨w.heap.size + 1, 1, none⟩)))) 3 rfl rfl (hon 3 (by kernel_rfl)) rfl
          replace ha := Aside0.mk ha
          have cG := Aside0.mk Q_cG
          have cL0 := Aside0.mk Q_cL0
          have cL1 := Aside0.mk Q_cL1
          have cM0 := Aside0.mk Q_cM0
          have cM1 := Aside0.mk Q_cM1
          have bel := Aside0.mk Q_bel
          have siz := Aside0.mk Q_siz
          have saf := Aside0.mk Q_saf
          have q0 := cG.out
          refine value_ (w1 := w') (v := (.slice (some ⟨P, 0, none⟩) rows.length rows.length)) (by rfl) rfl ?_ ?_
          · go_simp
            (try simp only [i64_w])
            try rfl
          refine hK.out _ _ ⟨K1, K2, g1, cap1, g2, cap2, m12_, m13_, m20_, m21_, (by rw [ha.out]; exact putSel_upk 4 hb_ rfl rfl rfl), Q_cG, Q_cL0, Q_cL1, Q_cM0, Q_cM1, Q_blk0, Q_blk1, fun h0_ => absurd ((hoff 25 (by kernel_rfl)).symm.trans h0_) (by decide), Q_R0, Q_R1, Q_R2, Q_hK1, Q_hK2, Q_bel, Q_siz, Q_saf, Q_X12_, Q_X13_, Q_X20_, Q_X21_⟩
        refine steps_cons ?_ ?_
        · rintro b a w' ⟨K1, K2, g1, cap1, g2, cap2, m12_, m13_, m20_, m21_, ha, Q_cG, Q_cL0, Q_cL1, Q_cM0, Q_cM1, Q_blk0, Q_blk1, Q_blk2, Q_R0, Q_R1, Q_R2, Q_hK1, Q_hK2, Q_bel, Q_siz, Q_saf, Q_X12_, Q_X13_, Q_X20_, Q_X21_⟩ hb_ hon hoff
          refine ⟨_, rfl, fun K hK => ?_⟩
          have e3 : a.tmps[3]? = some ((.int .i64 kb)) := by rw [ha]; exact (putSel_off rfl).trans rfl
          replace ha := Aside0.mk ha
          have cG := Aside0.mk Q_cG
          have cL0 := Aside0.mk Q_cL0
          have cL1 := Aside0.mk Q_cL1
          have cM0 := Aside0.mk Q_cM0
          have cM1 := Aside0.mk Q_cM1
          have bel := Aside0.mk Q_bel
          have siz := Aside0.mk Q_siz
          have saf := Aside0.mk Q_saf
          refine value_ (w1 := w') (v := (.int .i64 kb)) (by rfl) rfl ?_ ?_
          · go_simp
            (try simp only [i64_w])
            try rfl
          refine hK.out _ _ ⟨K1, K2, g1, cap1, g2, cap2, m12_, m13_, m20_, m21_, (by rw [ha.out]; exact putSel_upk 5 hb_ rfl rfl rfl), Q_cG, Q_cL0, Q_cL1, Q_cM0, Q_cM1, Q_blk0, Q_blk1, fun h0_ => absurd ((hoff 25 (by kernel_rfl)).symm.trans h0_) (by decide), Q_R0, Q_R1, Q_R2, Q_hK1, Q_hK2, Q_bel, Q_siz, Q_saf, Q_X12_, Q_X13_, Q_X20_, Q_X21_⟩
        refine steps_cons ?_ ?_
        · rintro b a w' ⟨K1, K2, g1, cap1, g2, cap2, m12_, m13_, m20_, m21_, ha, Q_cG, Q_cL0, Q_cL1, Q_cM0, Q_cM1, Q_blk0, Q_blk1, Q_blk2, Q_R0, Q_R1, Q_R2, Q_hK1, Q_hK2, Q_bel, Q_siz, Q_saf, Q_X12_, Q_X13_, Q_X20_, Q_X21_⟩ hb_ hon hoff
          refine ⟨_, rfl, fun K hK => ?_⟩
          have e6 : a.tmps[6]? = some ((.pointer (some ⟨w.heap.size + 1, 0, none⟩))) := by rw [ha]; exact (putSel_off rfl).trans rfl
          replace ha := Aside0.mk ha
          have cG := Aside0.mk Q_cG
          have cL0 := Aside0.mk Q_cL0
          have cL1 := Aside0.mk Q_cL1
          have cM0 := Aside0.mk Q_cM0
          have cM1 := Aside0.mk Q_cM1
          have blk0 := Aside0.mk (Q_blk0 (hoff 23 (by kernel_rfl)))
          have R0 := Aside0.mk (Q_R0 (hoff 13 (by kernel_rfl)))
          have bel := Aside0.mk Q_bel
          have siz := Aside0.mk Q_siz
          have saf := Aside0.mk Q_saf
          refine value_ (w1 := w') (v := (.pointer (some ⟨w.heap.size + 1, 1, none⟩))) (by rfl) rfl ?_ ?_
          · go_simp
            (try simp only [i64_w])
            try rfl
          refine hK.out _ _ ⟨K1, K2, g1, cap1, g2, cap2, m12_, m13_, m20_, m21_, (by rw [ha.out]; exact putSel_upk 6 hb_ rfl rfl rfl), Q_cG, Q_cL0, Q_cL1, Q_cM0, Q_cM1, Q_blk0, fun h0_ _ => absurd ((hoff 23 (by kernel_rfl)).symm.trans h0_) (by decide), fun h0_ => absurd ((hoff 25 (by kernel_rfl)).symm.trans h0_) (by decide), Q_R0, fun h0_ _ => absurd ((hoff 13 (by kernel_rfl)).symm.trans h0_) (by decide), fun h0_ => absurd ((hoff 21 (by kernel_rfl)).symm.trans h0_) (by decide), Q_hK1, Q_hK2, Q_bel, Q_siz, Q_saf, Q_X12_, fun h0_ => absurd ((hoff 13 (by kernel_rfl)).symm.trans h0_) (by decide), Q_X20_, fun h0_ => absurd ((hoff 21 (by kernel_rfl)).symm.trans h0_) (by decide)⟩
        refine steps_cons ?_ ?_
        · rintro b a w' ⟨K1, K2, g1, cap1, g2, cap2, m12_, m13_, m20_, m21_, ha, Q_cG, Q_cL0, Q_cL1, Q_cM0, Q_cM1, Q_blk0, Q_blk1, Q_blk2, Q_R0, Q_R1, Q_R2, Q_hK1, Q_hK2, Q_bel, Q_siz, Q_saf, Q_X12_, Q_X13_, Q_X20_, Q_X21_⟩ hb_ hon hoff
          refine ⟨_, rfl, fun K hK => ?_⟩
          have e59 : a.tmps[59]? = some ((.pointer (some ⟨w.heap.size + 1, 1, none⟩))) := by rw [ha]; exact putSel_on (e := (6, 59, (.pointer (some ⟨w.heap.size + 1, 1, none⟩)))) 6 rfl rfl (hon 6 (by kernel_rfl)) rfl
          replace ha := Aside0.mk ha
          have cG := Aside0.mk Q_cG
          have cL0 := Aside0.mk Q_cL0
          have cL1 := Aside0.mk Q_cL1
          have cM0 := Aside0.mk Q_cM0
          have cM1 := Aside0.mk Q_cM1
          have blk0 := Aside0.mk (Q_blk0 (hoff 23 (by kernel_rfl)))
          have R0 := Aside0.mk (Q_R0 (hoff 13 (by kernel_rfl)))
          have bel := Aside0.mk Q_bel
          have siz := Aside0.mk Q_siz
          have saf := Aside0.mk Q_saf
          have q0 := cG.out
          refine value_ (w1 := w') (v := (.slice (some ⟨P, 0, none⟩) rows.length rows.length)) (by rfl) rfl ?_ ?_
          · go_simp
            (try simp only [i64_w])
            try rfl
          refine hK.out _ _ ⟨K1, K2, g1, cap1, g2, cap2, m12_, m13_, m20_, m21_, (by rw [ha.out]; exact putSel_upk 7 hb_ rfl rfl rfl), Q_cG, Q_cL0, Q_cL1, Q_cM0, Q_cM1, Q_blk0, fun h0_ _ => absurd ((hoff 23 (by kernel_rfl)).symm.trans h0_) (by decide), fun h0_ => absurd ((hoff 25 (by kernel_rfl)).symm.trans h0_) (by decide), Q_R0, fun h0_ _ => absurd ((hoff 13 (by kernel_rfl)).symm.trans h0_) (by decide), fun h0_ => absurd ((hoff 21 (by kernel_rfl)).symm.trans h0_) (by decide), Q_hK1, Q_hK2, Q_bel, Q_siz, Q_saf, Q_X12_, fun h0_ => absurd ((hoff 13 (by kernel_rfl)).symm.trans h0_) (by decide), Q_X20_, fun h0_ => absurd ((hoff 21 (by kernel_rfl)).symm.trans h0_) (by decide)⟩
        refine steps_cons ?_ ?_
        · rintro b a w' ⟨K1, K2, g1, cap1, g2, cap2, m12_, m13_, m20_, m21_, ha, Q_cG, Q_cL0, Q_cL1, Q_cM0, Q_cM1, Q_blk0, Q_blk1, Q_blk2, Q_R0, Q_R1, Q_R2, Q_hK1, Q_hK2, Q_bel, Q_siz, Q_saf, Q_X12_, Q_X13_, Q_X20_, Q_X21_⟩ hb_ hon hoff
          refine ⟨_, rfl, fun K hK => ?_⟩
          have e2 : a.tmps[2]? = some ((.int .i64 ka)) := by rw [ha]; exact (putSel_off rfl).trans rfl
          replace ha := Aside0.mk ha
          have cG := Aside0.mk Q_cG
          have cL0 := Aside0.mk Q_cL0
          have cL1 := Aside0.mk Q_cL1
          have cM0 := Aside0.mk Q_cM0
          have cM1 := Aside0.mk Q_cM1
          have blk0 := Aside0.mk (Q_blk0 (hoff 23 (by kernel_rfl)))
          have R0 := Aside0.mk (Q_R0 (hoff 13 (by kernel_rfl)))
          have bel := Aside0.mk Q_bel
          have siz := Aside0.mk Q_siz
          have saf := Aside0.mk Q_saf
          refine value_ (w1 := w') (v := (.int .i64 ka)) (by rfl) rfl ?_ ?_
          · go_simp
            (try simp only [i64_w])
            try rfl
          refine hK.out _ _ ⟨K1, K2, g1, cap1, g2, cap2, m12_, m13_, m20_, m21_, (by rw [ha.out]; exact putSel_upk 8 hb_ rfl rfl rfl), Q_cG, Q_cL0, Q_cL1, Q_cM0, Q_cM1, Q_blk0, fun h0_ _ => absurd ((hoff 23 (by kernel_rfl)).symm.trans h0_) (by decide), fun h0_ => absurd ((hoff 25 (by kernel_rfl)).symm.trans h0_) (by decide), Q_R0, fun h0_ _ => absurd ((hoff 13 (by kernel_rfl)).symm.trans h0_) (by decide), fun h0_ => absurd ((hoff 21 (by kernel_rfl)).symm.trans h0_) (by decide), Q_hK1, Q_hK2, Q_bel, Q_siz, Q_saf, Q_X12_, fun h0_ => absurd ((hoff 13 (by kernel_rfl)).symm.trans h0_) (by decide), Q_X20_, fun h0_ => absurd ((hoff 21 (by kernel_rfl)).symm.trans h0_) (by decide)⟩
        refine steps_cons ?_ ?_
        · rintro b a w' ⟨K1, K2, g1, cap1, g2, cap2, m12_, m13_, m20_, m21_, ha, Q_cG, Q_cL0, Q_cL1, Q_cM0, Q_cM1, Q_blk0, Q_blk1, Q_blk2, Q_R0, Q_R1, Q_R2, Q_hK1, Q_hK2, Q_bel, Q_siz, Q_saf, Q_X12_, Q_X13_, Q_X20_, Q_X21_⟩ hb_ hon hoff
          refine ⟨_, rfl, fun K hK => ?_⟩
          have e60 : a.tmps[60]? = some ((.slice (some ⟨P, 0, none⟩) rows.length rows.length)) := by rw [ha]; exact putSel_on (e := (7, 60, (.slice (some ⟨P, 0, none⟩) rows.length rows.length))) 7 rfl rfl (hon 7 (by kernel_rfl)) rfl
          have e61 : a.tmps[61]? = some ((.int .i64 ka)) := by rw [ha]; exact putSel_on (e := (8, 61, (.int .i64 ka))) 8 rfl rfl (hon 8 (by kernel_rfl)) rfl
          replace ha := Aside0.mk ha
          have cG := Aside0.mk Q_cG
          have cL0 := Aside0.mk Q_cL0
          have cL1 := Aside0.mk Q_cL1
          have cM0 := Aside0.mk Q_cM0
          have cM1 := Aside0.mk Q_cM1
          have blk0 := Aside0.mk (Q_blk0 (hoff 23 (by kernel_rfl)))
          have R0 := Aside0.mk (Q_R0 (hoff 13 (by kernel_rfl)))
          have bel := Aside0.mk Q_bel
          have siz := Aside0.mk Q_siz
          have saf := Aside0.mk Q_saf
          refine value_ (w1 := w') (v := (.pointer (some ⟨P, ka, none⟩))) (by rfl) rfl ?_ ?_
          · go_simp
            (try simp only [i64_w])
            try rfl
          refine hK.out _ _ ⟨K1, K2, g1, cap1, g2, cap2, m12_, m13_, m20_, m21_, (by rw [ha.out]; exact putSel_upk 9 hb_ rfl rfl rfl), Q_cG, Q_cL0, Q_cL1, Q_cM0, Q_cM1, Q_blk0, fun h0_ _ => absurd ((hoff 23 (by kernel_rfl)).symm.trans h0_) (by decide), fun h0_ => absurd ((hoff 25 (by kernel_rfl)).symm.trans h0_) (by decide), Q_R0, fun h0_ _ => absurd ((hoff 13 (by kernel_rfl)).symm.trans h0_) (by decide), fun h0_ => absurd ((hoff 21 (by kernel_rfl)).symm.trans h0_) (by decide), Q_hK1, Q_hK2, Q_bel, Q_siz, Q_saf, Q_X12_, fun h0_ => absurd ((hoff 13 (by kernel_rfl)).symm.trans h0_) (by decide), Q_X20_, fun h0_ => absurd ((hoff 21 (by kernel_rfl)).symm.trans h0_) (by decide)⟩
        refine steps_cons ?_ ?_
        · rintro b a w' ⟨K1, K2, g1, cap1, g2, cap2, m12_, m13_, m20_, m21_, ha, Q_cG, Q_cL0, Q_cL1, Q_cM0, Q_cM1, Q_blk0, Q_blk1, Q_blk2, Q_R0, Q_R1, Q_R2, Q_hK1, Q_hK2, Q_bel, Q_siz, Q_saf, Q_X12_, Q_X13_, Q_X20_, Q_X21_⟩ hb_ hon hoff
          refine ⟨_, rfl, fun K hK => ?_⟩
          have e62 : a.tmps[62]? = some ((.pointer (some ⟨P, ka, none⟩))) := by rw [ha]; exact putSel_on (e := (9, 62, (.pointer (some ⟨P, ka, none⟩)))) 9 rfl rfl (hon 9 (by kernel_rfl)) rfl
          replace ha := Aside0.mk ha
          have cG := Aside0.mk Q_cG
          have cL0 := Aside0.mk Q_cL0
          have cL1 := Aside0.mk Q_cL1
          have cM0 := Aside0.mk Q_cM0
          have cM1 := Aside0.mk Q_cM1
          have blk0 := Aside0.mk (Q_blk0 (hoff 23 (by kernel_rfl)))
          have R0 := Aside0.mk (Q_R0 (hoff 13 (by kernel_rfl)))
          have bel := Aside0.mk Q_bel
          have siz := Aside0.mk Q_siz
          have saf := Aside0.mk Q_saf
          have q0 := port_cell blk0.out HA.out
          refine value_ (w1 := w') (v := va) (by rfl) rfl ?_ ?_
          · go_simp
            (try simp only [i64_w])
            try rfl
          refine hK.out _ _ ⟨K1, K2, g1, cap1, g2, cap2, m12_, m13_, m20_, m21_, (by rw [ha.out]; exact putSel_upk 10 hb_ rfl rfl rfl), Q_cG, Q_cL0, Q_cL1, Q_cM0, Q_cM1, Q_blk0, fun h0_ _ => absurd ((hoff 23 (by kernel_rfl)).symm.trans h0_) (by decide), fun h0_ => absurd ((hoff 25 (by kernel_rfl)).symm.trans h0_) (by decide), Q_R0, fun h0_ _ => absurd ((hoff 13 (by kernel_rfl)).symm.trans h0_) (by decide), fun h0_ => absurd ((hoff 21 (by kernel_rfl)).symm.trans h0_) (by decide), Q_hK1, Q_hK2, Q_bel, Q_siz, Q_saf, Q_X12_, fun h0_ => absurd ((hoff 13 (by kernel_rfl)).symm.trans h0_) (by decide), Q_X20_, fun h0_ => absurd ((hoff 21 (by kernel_rfl)).symm.trans h0_) (by decide)⟩
        refine steps_cons ?_ ?_
        · rintro b a w' ⟨K1, K2, g1, cap1, g2, cap2, m12_, m13_, m20_, m21_, ha, Q_cG, Q_cL0, Q_cL1, Q_cM0, Q_cM1, Q_blk0, Q_blk1, Q_blk2, Q_R0, Q_R1, Q_R2, Q_hK1, Q_hK2, Q_bel, Q_siz, Q_saf, Q_X12_, Q_X13_, Q_X20_, Q_X21_⟩ hb_ hon hoff
          refine ⟨_, rfl, fun K hK => ?_⟩
          have e10 : a.tmps[10]? = some ((.pointer (some ⟨w1.heap.size, 0, none⟩))) := by rw [ha]; exact (putSel_off rfl).trans rfl
          replace ha := Aside0.mk ha
          have cG := Aside0.mk Q_cG
          have cL0 := Aside0.mk Q_cL0
          have cL1 := Aside0.mk Q_cL1
          have cM0 := Aside0.mk Q_cM0
          have cM1 := Aside0.mk Q_cM1
          have blk0 := Aside0.mk (Q_blk0 (hoff 23 (by kernel_rfl)))
          have R0 := Aside0.mk (Q_R0 (hoff 13 (by kernel_rfl)))
          have bel := Aside0.mk Q_bel
          have siz := Aside0.mk Q_siz
          have saf := Aside0.mk Q_saf
          have q0 := cL0.out
          have q1 := cL1.out
          refine value_ (w1 := w') (v := (.agg #[(.int .i64 kb), (.int .i64 wt)])) (by rfl) rfl ?_ ?_
          · go_simp
            (try simp only [i64_w])
            try rfl
          refine hK.out _ _ ⟨K1, K2, g1, cap1, g2, cap2, m12_, m13_, m20_, m21_, (by rw [ha.out]; exact putSel_upk 11 hb_ rfl rfl rfl), Q_cG, Q_cL0, Q_cL1, Q_cM0, Q_cM1, Q_blk0, fun h0_ _ => absurd ((hoff 23 (by kernel_rfl)).symm.trans h0_) (by decide), fun h0_ => absurd ((hoff 25 (by kernel_rfl)).symm.trans h0_) (by decide), Q_R0, fun h0_ _ => absurd ((hoff 13 (by kernel_rfl)).symm.trans h0_) (by decide), fun h0_ => absurd ((hoff 21 (by kernel_rfl)).symm.trans h0_) (by decide), fun h0_ _ => absurd ((hoff 12 (by kernel_rfl)).symm.trans h0_) (by decide), Q_hK2, Q_bel, Q_siz, Q_saf, fun h0_ => absurd ((hoff 12 (by kernel_rfl)).symm.trans h0_) (by decide), fun h0_ => absurd ((hoff 13 (by kernel_rfl)).symm.trans h0_) (by decide), Q_X20_, fun h0_ => absurd ((hoff 21 (by kernel_rfl)).symm.trans h0_) (by decide)⟩
        refine steps_cons ?_ ?_
        · rintro b a w' ⟨K1, K2, g1, cap1, g2, cap2, m12_, m13_, m20_, m21_, ha, Q_cG, Q_cL0, Q_cL1, Q_cM0, Q_cM1, Q_blk0, Q_blk1, Q_blk2, Q_R0, Q_R1, Q_R2, Q_hK1, Q_hK2, Q_bel, Q_siz, Q_saf, Q_X12_, Q_X13_, Q_X20_, Q_X21_⟩ hb_ hon hoff
          refine ⟨_, rfl, fun K hK => ?_⟩
          have e64 : a.tmps[64]? = some ((.agg #[(.int .i64 kb), (.int .i64 wt)])) := by rw [ha]; exact putSel_on (e := (11, 64, (.agg #[(.int .i64 kb), (.int .i64 wt)]))) 11 rfl rfl (hon 11 (by kernel_rfl)) rfl
          replace ha := Aside0.mk ha
          have cG := Aside0.mk Q_cG
          have cL0 := Aside0.mk Q_cL0
          have cL1 := Aside0.mk Q_cL1
          have cM0 := Aside0.mk Q_cM0
          have cM1 := Aside0.mk Q_cM1
          have blk0 := Aside0.mk (Q_blk0 (hoff 23 (by kernel_rfl)))
          have R0 := Aside0.mk (Q_R0 (hoff 13 (by kernel_rfl)))
          have bel := Aside0.mk Q_bel
          have siz := Aside0.mk Q_siz
          have saf := Aside0.mk Q_saf
          refine value_ (w1 := w'.alloc (.cells #[(.int .i64 kb), (.int .i64 wt)] 60)) (v := .slice (some ⟨w'.heap.size, 0, none⟩) 1 1) (by rfl) rfl ?_ ?_
          · go_simp
            try rfl
          refine hK.out _ _ ⟨w'.heap.size, K2, g1, cap1, g2, cap2, ((.slice (some ⟨w'.heap.size, 0, none⟩) 1 1 : Value)), m13_, m20_, m21_, (by rw [ha.out]; exact putSel_upk 12 hb_ rfl rfl rfl), cell_a _ cG.out, cell_a _ cL0.out, cell_a _ cL1.out, cell_a _ cM0.out, cell_a _ cM1.out, fun _ => (Below.heap_alloc _ _ _ (blk_lt blk0.out)).trans blk0.out, fun h0_ _ => absurd ((hoff 23 (by kernel_rfl)).symm.trans h0_) (by decide), fun h0_ => absurd ((hoff 25 (by kernel_rfl)).symm.trans h0_) (by decide), fun _ => R0.out.alloc _, fun h0_ _ => absurd ((hoff 13 (by kernel_rfl)).symm.trans h0_) (by decide), fun h0_ => absurd ((hoff 21 (by kernel_rfl)).symm.trans h0_) (by decide), fun _ _ => ⟨siz.out, heap_alloc_new _ _⟩, fun h0_ h1_ => ⟨(Q_hK2 h0_ h1_).1, (Below.heap_alloc _ _ _ (blk_lt (Q_hK2 h0_ h1_).2)).trans (Q_hK2 h0_ h1_).2⟩, bel.out.alloc (Nat.le_trans hbW siz.out) _, Nat.le_trans siz.out (by simp), saf.out.alloc _, fun _ => rfl, fun h0_ => absurd ((hoff 13 (by kernel_rfl)).symm.trans h0_) (by decide), Q_X20_, fun h0_ => absurd ((hoff 21 (by kernel_rfl)).symm.trans h0_) (by decide)⟩
        refine steps_cons ?_ ?_
        · rintro b a w' ⟨K1, K2, g1, cap1, g2, cap2, m12_, m13_, m20_, m21_, ha, Q_cG, Q_cL0, Q_cL1, Q_cM0, Q_cM1, Q_blk0, Q_blk1, Q_blk2, Q_R0, Q_R1, Q_R2, Q_hK1, Q_hK2, Q_bel, Q_siz, Q_saf, Q_X12_, Q_X13_, Q_X20_, Q_X21_⟩ hb_ hon hoff
          refine ⟨_, rfl, fun K hK => ?_⟩
          have e63 : a.tmps[63]? = some (va) := by rw [ha]; exact putSel_on (e := (10, 63, va)) 10 rfl rfl (hon 10 (by kernel_rfl)) rfl
          have e65 : a.tmps[65]? = some (m12_) := by rw [ha]; exact putSel_on (e := (12, 65, m12_)) 12 rfl rfl (hon 12 (by kernel_rfl)) rfl
          rw [Q_X12_ (hon 12 (by kernel_rfl))] at e65
          replace ha := Aside0.mk ha
          have cG := Aside0.mk Q_cG
          have cL0 := Aside0.mk Q_cL0
          have cL1 := Aside0.mk Q_cL1
          have cM0 := Aside0.mk Q_cM0
          have cM1 := Aside0.mk Q_cM1
          have blk0 := Aside0.mk (Q_blk0 (hoff 23 (by kernel_rfl)))
          have R0 := Aside0.mk (Q_R0 hb_)
          have hK1 := Aside0.mk (Q_hK1 (hon 12 (by kernel_rfl)) hb_)
          have bel := Aside0.mk Q_bel
          have siz := Aside0.mk Q_siz
          have saf := Aside0.mk Q_saf
          refine step_append_lies _ (by rfl) (.tmp 63) (.tmp 65) _ (by rfl) base 60 i0 _ 2 16 Try.underlying52 hi0 hz0 hz1 hz2 rfl (by omega) va ra.length (lcells ra) (eval_of e63) (R0.out.own ka va ra HA.out HRa.out) _ 1 1 [(.int .i64 kb), (.int .i64 wt)] (eval_of e65) (by rfl) (World.news_of_block (cs := #[(.int .i64 kb), (.int .i64 wt)]) hK1.out.2) (by simp [Value.oneCell']) (by omega) (by have := HLa.out; unfold maxLen; omega) (by have := HLa.out; omega) (Nat.le_trans hbW siz.out) _ (by rfl) ?_
          intro gn capn wn hown hgr hat hlt
          refine hK.out _ _ ⟨K1, K2, gn, capn, g2, cap2, m12_, ((.slice (some ⟨gn, 0, none⟩) (ra.length + 1) capn : Value)), m20_, m21_, (by rw [ha.out]; exact putSel_upk 13 hb_ rfl rfl rfl), hgr.cell cG.out NGa.out, hgr.cell cL0.out NLa.out, hgr.cell cL1.out NLa.out, hgr.cell cM0.out NMa.out, hgr.cell cM1.out NMa.out, fun _ => (hgr.block _ (blk_lt blk0.out) NPa.out).trans blk0.out, fun h0_ _ => absurd ((hoff 23 (by kernel_rfl)).symm.trans h0_) (by decide), fun h0_ => absurd ((hoff 25 (by kernel_rfl)).symm.trans h0_) (by decide), fun h0_ => absurd ((up_self b 13).symm.trans h0_) (by decide), fun _ _ => R0.out.upd HA.out hgr (by simpa [lcells_append, lcells_one] using hown) (by simp) (.inr (by rcases hat with h | h; exact .inl h.symm; exact .inr ⟨gn, rfl, by rw [h]; exact Nat.le_refl _⟩)), fun h0_ => absurd ((hoff 21 (by kernel_rfl)).symm.trans h0_) (by decide), fun _ h1_ => absurd ((up_self b 13).symm.trans h1_) (by decide), fun h0_ h1_ => ⟨(Q_hK2 h0_ h1_).1, (hgr.block _ (blk_lt (Q_hK2 h0_ h1_).2) (fun e => by have := La.out _ e.symm; have := (Q_hK2 h0_ h1_).1; omega)).trans (Q_hK2 h0_ h1_).2⟩, bel.out.grown hgr (Nat.le_trans hbW siz.out) HBa.out, Nat.le_trans siz.out hgr.size, saf.out.grown hgr (fun k hk => (own_typed (R0.out.own ka va ra HA.out HRa.out) k hk).2), Q_X12_, fun _ => rfl, Q_X20_, fun h0_ => absurd ((hoff 21 (by kernel_rfl)).symm.trans h0_) (by decide)⟩
        refine steps_cons ?_ ?_
        · rintro b a w' ⟨K1, K2, g1, cap1, g2, cap2, m12_, m13_, m20_, m21_, ha, Q_cG, Q_cL0, Q_cL1, Q_cM0, Q_cM1, Q_blk0, Q_blk1, Q_blk2, Q_R0, Q_R1, Q_R2, Q_hK1, Q_hK2, Q_bel, Q_siz, Q_saf, Q_X12_, Q_X13_, Q_X20_, Q_X21_⟩ hb_ hon hoff
          refine ⟨_, rfl, fun K hK => ?_⟩
          have e6 : a.tmps[6]? = some ((.pointer (some ⟨w.heap.size + 1, 0, none⟩))) := by rw [ha]; exact (putSel_off rfl).trans rfl
          replace ha := Aside0.mk ha
          have cG := Aside0.mk Q_cG
          have cL0 := Aside0.mk Q_cL0
          have cL1 := Aside0.mk Q_cL1
          have cM0 := Aside0.mk Q_cM0
          have cM1 := Aside0.mk Q_cM1
          have blk0 := Aside0.mk (Q_blk0 (hoff 23 (by kernel_rfl)))
          have bel := Aside0.mk Q_bel
          have siz := Aside0.mk Q_siz
          have saf := Aside0.mk Q_saf
          refine value_ (w1 := w') (v := (.pointer (some ⟨w.heap.size + 1, 1, none⟩))) (by rfl) rfl ?_ ?_
          · go_simp
            (try simp only [i64_w])
            try rfl
          refine hK.out _ _ ⟨K1, K2, g1, cap1, g2, cap2, m12_, m13_, m20_, m21_, (by rw [ha.out]; exact putSel_upk 14 hb_ rfl rfl rfl), Q_cG, Q_cL0, Q_cL1, Q_cM0, Q_cM1, Q_blk0, fun h0_ _ => absurd ((hoff 23 (by kernel_rfl)).symm.trans h0_) (by decide), fun h0_ => absurd ((hoff 25 (by kernel_rfl)).symm.trans h0_) (by decide), Q_R0, Q_R1, fun h0_ => absurd ((hoff 21 (by kernel_rfl)).symm.trans h0_) (by decide), Q_hK1, Q_hK2, Q_bel, Q_siz, Q_saf, Q_X12_, Q_X13_, Q_X20_, fun h0_ => absurd ((hoff 21 (by kernel_rfl)).symm.trans h0_) (by decide)⟩
        refine steps_cons ?_ ?_
        · rintro b a w' ⟨K1, K2, g1, cap1, g2, cap2, m12_, m13_, m20_, m21_, ha, Q_cG, Q_cL0, Q_cL1, Q_cM0, Q_cM1, Q_blk0, Q_blk1, Q_blk2, Q_R0, Q_R1, Q_R2, Q_hK1, Q_hK2, Q_bel, Q_siz, Q_saf, Q_X12_, Q_X13_, Q_X20_, Q_X21_⟩ hb_ hon hoff
          refine ⟨_, rfl, fun K hK => ?_⟩
          have e67 : a.tmps[67]? = some ((.pointer (some ⟨w.heap.size + 1, 1, none⟩))) := by rw [ha]; exact putSel_on (e := (14, 67, (.pointer (some ⟨w.heap.size + 1, 1, none⟩)))) 14 rfl rfl (hon 14 (by kernel_rfl)) rfl
          replace ha := Aside0.mk ha
          have cG := Aside0.mk Q_cG
          have cL0 := Aside0.mk Q_cL0
          have cL1 := Aside0.mk Q_cL1
          have cM0 := Aside0.mk Q_cM0
          have cM1 := Aside0.mk Q_cM1
          have blk0 := Aside0.mk (Q_blk0 (hoff 23 (by kernel_rfl)))
          have bel := Aside0.mk Q_bel
          have siz := Aside0.mk Q_siz
          have saf := Aside0.mk Q_saf
          have q0 := cG.out
          refine value_ (w1 := w') (v := (.slice (some ⟨P, 0, none⟩) rows.length rows.length)) (by rfl) rfl ?_ ?_
          · go_simp
            (try simp only [i64_w])
            try rfl
          refine hK.out _ _ ⟨K1, K2, g1, cap1, g2, cap2, m12_, m13_, m20_, m21_, (by rw [ha.out]; exact putSel_upk 15 hb_ rfl rfl rfl), Q_cG, Q_cL0, Q_cL1, Q_cM0, Q_cM1, Q_blk0, fun h0_ _ => absurd ((hoff 23 (by kernel_rfl)).symm.trans h0_) (by decide), fun h0_ => absurd ((hoff 25 (by kernel_rfl)).symm.trans h0_) (by decide), Q_R0, Q_R1, fun h0_ => absurd ((hoff 21 (by kernel_rfl)).symm.trans h0_) (by decide), Q_hK1, Q_hK2, Q_bel, Q_siz, Q_saf, Q_X12_, Q_X13_, Q_X20_, fun h0_ => absurd ((hoff 21 (by kernel_rfl)).symm.trans h0_) (by decide)⟩
        refine steps_cons ?_ ?_
        · rintro b a w' ⟨K1, K2, g1, cap1, g2, cap2, m12_, m13_, m20_, m21_, ha, Q_cG, Q_cL0, Q_cL1, Q_cM0, Q_cM1, Q_blk0, Q_blk1, Q_blk2, Q_R0, Q_R1, Q_R2, Q_hK1, Q_hK2, Q_bel, Q_siz, Q_saf, Q_X12_, Q_X13_, Q_X20_, Q_X21_⟩ hb_ hon hoff
          refine ⟨_, rfl, fun K hK => ?_⟩
          have e3 : a.tmps[3]? = some ((.int .i64 kb)) := by rw [ha]; exact (putSel_off rfl).trans rfl
          replace ha := Aside0.mk ha
          have cG := Aside0.mk Q_cG
          have cL0 := Aside0.mk Q_cL0
          have cL1 := Aside0.mk Q_cL1
          have cM0 := Aside0.mk Q_cM0
          have cM1 := Aside0.mk Q_cM1
          have blk0 := Aside0.mk (Q_blk0 (hoff 23 (by kernel_rfl)))
          have bel := Aside0.mk Q_bel
          have siz := Aside0.mk Q_siz
          have saf := Aside0.mk Q_saf
          refine value_ (w1 := w') (v := (.int .i64 kb)) (by rfl) rfl ?_ ?_
          · go_simp
            (try simp only [i64_w])
            try rfl
          refine hK.out _ _ ⟨K1, K2, g1, cap1, g2, cap2, m12_, m13_, m20_, m21_, (by rw [ha.out]; exact putSel_upk 16 hb_ rfl rfl rfl), Q_cG, Q_cL0, Q_cL1, Q_cM0, Q_cM1, Q_blk0, fun h0_ _ => absurd ((hoff 23 (by kernel_rfl)).symm.trans h0_) (by decide), fun h0_ => absurd ((hoff 25 (by kernel_rfl)).symm.trans h0_) (by decide), Q_R0, Q_R1, fun h0_ => absurd ((hoff 21 (by kernel_rfl)).symm.trans h0_) (by decide), Q_hK1, Q_hK2, Q_bel, Q_siz, Q_saf, Q_X12_, Q_X13_, Q_X20_, fun h0_ => absurd ((hoff 21 (by kernel_rfl)).symm.trans h0_) (by decide)⟩
        refine steps_cons ?_ ?_
        · rintro b a w' ⟨K1, K2, g1, cap1, g2, cap2, m12_, m13_, m20_, m21_, ha, Q_cG, Q_cL0, Q_cL1, Q_cM0, Q_cM1, Q_blk0, Q_blk1, Q_blk2, Q_R0, Q_R1, Q_R2, Q_hK1, Q_hK2, Q_bel, Q_siz, Q_saf, Q_X12_, Q_X13_, Q_X20_, Q_X21_⟩ hb_ hon hoff
          refine ⟨_, rfl, fun K hK => ?_⟩
          have e68 : a.tmps[68]? = some ((.slice (some ⟨P, 0, none⟩) rows.length rows.length)) := by rw [ha]; exact putSel_on (e := (15, 68, (.slice (some ⟨P, 0, none⟩) rows.length rows.length))) 15 rfl rfl (hon 15 (by kernel_rfl)) rfl
          have e69 : a.tmps[69]? = some ((.int .i64 kb)) := by rw [ha]; exact putSel_on (e := (16, 69, (.int .i64 kb))) 16 rfl rfl (hon 16 (by kernel_rfl)) rfl
          replace ha := Aside0.mk ha
          have cG := Aside0.mk Q_cG
          have cL0 := Aside0.mk Q_cL0
          have cL1 := Aside0.mk Q_cL1
          have cM0 := Aside0.mk Q_cM0
          have cM1 := Aside0.mk Q_cM1
          have blk0 := Aside0.mk (Q_blk0 (hoff 23 (by kernel_rfl)))
          have bel := Aside0.mk Q_bel
          have siz := Aside0.mk Q_siz
          have saf := Aside0.mk Q_saf
          refine value_ (w1 := w') (v := (.pointer (some ⟨P, kb, none⟩))) (by rfl) rfl ?_ ?_
          · go_simp
            (try simp only [i64_w])
            try rfl
          refine hK.out _ _ ⟨K1, K2, g1, cap1, g2, cap2, m12_, m13_, m20_, m21_, (by rw [ha.out]; exact putSel_upk 17 hb_ rfl rfl rfl), Q_cG, Q_cL0, Q_cL1, Q_cM0, Q_cM1, Q_blk0, fun h0_ _ => absurd ((hoff 23 (by kernel_rfl)).symm.trans h0_) (by decide), fun h0_ => absurd ((hoff 25 (by kernel_rfl)).symm.trans h0_) (by decide), Q_R0, Q_R1, fun h0_ => absurd ((hoff 21 (by kernel_rfl)).symm.trans h0_) (by decide), Q_hK1, Q_hK2, Q_bel, Q_siz, Q_saf, Q_X12_, Q_X13_, Q_X20_, fun h0_ => absurd ((hoff 21 (by kernel_rfl)).symm.trans h0_) (by decide)⟩
        refine steps_cons ?_ ?_
        · rintro b a w' ⟨K1, K2, g1, cap1, g2, cap2, m12_, m13_, m20_, m21_, ha, Q_cG, Q_cL0, Q_cL1, Q_cM0, Q_cM1, Q_blk0, Q_blk1, Q_blk2, Q_R0, Q_R1, Q_R2, Q_hK1, Q_hK2, Q_bel, Q_siz, Q_saf, Q_X12_, Q_X13_, Q_X20_, Q_X21_⟩ hb_ hon hoff
          refine ⟨_, rfl, fun K hK => ?_⟩
          have e70 : a.tmps[70]? = some ((.pointer (some ⟨P, kb, none⟩))) := by rw [ha]; exact putSel_on (e := (17, 70, (.pointer (some ⟨P, kb, none⟩)))) 17 rfl rfl (hon 17 (by kernel_rfl)) rfl
          replace ha := Aside0.mk ha
          have cG := Aside0.mk Q_cG
          have cL0 := Aside0.mk Q_cL0
          have cL1 := Aside0.mk Q_cL1
          have cM0 := Aside0.mk Q_cM0
          have cM1 := Aside0.mk Q_cM1
          have blk0 := Aside0.mk (Q_blk0 (hoff 23 (by kernel_rfl)))
          have bel := Aside0.mk Q_bel
          have siz := Aside0.mk Q_siz
          have saf := Aside0.mk Q_saf
          have q0 := port_cell blk0.out Hb.out
          refine value_ (w1 := w') (v := vb) (by rfl) rfl ?_ ?_
          · go_simp
            (try simp only [i64_w])
            try rfl
          refine hK.out _ _ ⟨K1, K2, g1, cap1, g2, cap2, m12_, m13_, m20_, m21_, (by rw [ha.out]; exact putSel_upk 18 hb_ rfl rfl rfl), Q_cG, Q_cL0, Q_cL1, Q_cM0, Q_cM1, Q_blk0, fun h0_ _ => absurd ((hoff 23 (by kernel_rfl)).symm.trans h0_) (by decide), fun h0_ => absurd ((hoff 25 (by kernel_rfl)).symm.trans h0_) (by decide), Q_R0, Q_R1, fun h0_ => absurd ((hoff 21 (by kernel_rfl)).symm.trans h0_) (by decide), Q_hK1, Q_hK2, Q_bel, Q_siz, Q_saf, Q_X12_, Q_X13_, Q_X20_, fun h0_ => absurd ((hoff 21 (by kernel_rfl)).symm.trans h0_) (by decide)⟩
        refine steps_cons ?_ ?_
        · rintro b a w' ⟨K1, K2, g1, cap1, g2, cap2, m12_, m13_, m20_, m21_, ha, Q_cG, Q_cL0, Q_cL1, Q_cM0, Q_cM1, Q_blk0, Q_blk1, Q_blk2, Q_R0, Q_R1, Q_R2, Q_hK1, Q_hK2, Q_bel, Q_siz, Q_saf, Q_X12_, Q_X13_, Q_X20_, Q_X21_⟩ hb_ hon hoff
          refine ⟨_, rfl, fun K hK => ?_⟩
          have e11 : a.tmps[11]? = some ((.pointer (some ⟨w1.heap.size + 1, 0, none⟩))) := by rw [ha]; exact (putSel_off rfl).trans rfl
          replace ha := Aside0.mk ha
          have cG := Aside0.mk Q_cG
          have cL0 := Aside0.mk Q_cL0
          have cL1 := Aside0.mk Q_cL1
          have cM0 := Aside0.mk Q_cM0
          have cM1 := Aside0.mk Q_cM1
          have blk0 := Aside0.mk (Q_blk0 (hoff 23 (by kernel_rfl)))
          have bel := Aside0.mk Q_bel
          have siz := Aside0.mk Q_siz
          have saf := Aside0.mk Q_saf
          have q0 := cM0.out
          have q1 := cM1.out
          refine value_ (w1 := w') (v := (.agg #[(.int .i64 ka), (.int .i64 wt)])) (by rfl) rfl ?_ ?_
          · go_simp
            (try simp only [i64_w])
            try rfl
          refine hK.out _ _ ⟨K1, K2, g1, cap1, g2, cap2, m12_, m13_, m20_, m21_, (by rw [ha.out]; exact putSel_upk 19 hb_ rfl rfl rfl), Q_cG, Q_cL0, Q_cL1, Q_cM0, Q_cM1, Q_blk0, fun h0_ _ => absurd ((hoff 23 (by kernel_rfl)).symm.trans h0_) (by decide), fun h0_ => absurd ((hoff 25 (by kernel_rfl)).symm.trans h0_) (by decide), Q_R0, Q_R1, fun h0_ => absurd ((hoff 21 (by kernel_rfl)).symm.trans h0_) (by decide), Q_hK1, fun h0_ _ => absurd ((hoff 20 (by kernel_rfl)).symm.trans h0_) (by decide), Q_bel, Q_siz, Q_saf, Q_X12_, Q_X13_, fun h0_ => absurd ((hoff 20 (by kernel_rfl)).symm.trans h0_) (by decide), fun h0_ => absurd ((hoff 21 (by kernel_rfl)).symm.trans h0_) (by decide)⟩
        refine steps_cons ?_ ?_
        · rintro b a w' ⟨K1, K2, g1, cap1, g2, cap2, m12_, m13_, m20_, m21_, ha, Q_cG, Q_cL0, Q_cL1, Q_cM0, Q_cM1, Q_blk0, Q_blk1, Q_blk2, Q_R0, Q_R1, Q_R2, Q_hK1, Q_hK2, Q_bel, Q_siz, Q_saf, Q_X12_, Q_X13_, Q_X20_, Q_X21_⟩ hb_ hon hoff
          refine ⟨_, rfl, fun K hK => ?_⟩
          have e72 : a.tmps[72]? = some ((.agg #[(.int .i64 ka), (.int .i64 wt)])) := by rw [ha]; exact putSel_on (e := (19, 72, (.agg #[(.int .i64 ka), (.int .i64 wt)]))) 19 rfl rfl (hon 19 (by kernel_rfl)) rfl
          replace ha := Aside0.mk ha
          have cG := Aside0.mk Q_cG
          have cL0 := Aside0.mk Q_cL0
          have cL1 := Aside0.mk Q_cL1
          have cM0 := Aside0.mk Q_cM0
          have cM1 := Aside0.mk Q_cM1
          have blk0 := Aside0.mk (Q_blk0 (hoff 23 (by kernel_rfl)))
          have bel := Aside0.mk Q_bel
          have siz := Aside0.mk Q_siz
          have saf := Aside0.mk Q_saf
          refine value_ (w1 := w'.alloc (.cells #[(.int .i64 ka), (.int .i64 wt)] 60)) (v := .slice (some ⟨w'.heap.size, 0, none⟩) 1 1) (by rfl) rfl ?_ ?_
          · go_simp
            try rfl
          refine hK.out _ _ ⟨K1, w'.heap.size, g1, cap1, g2, cap2, m12_, m13_, ((.slice (some ⟨w'.heap.size, 0, none⟩) 1 1 : Value)), m21_, (by rw [ha.out]; exact putSel_upk 20 hb_ rfl rfl rfl), cell_a _ cG.out, cell_a _ cL0.out, cell_a _ cL1.out, cell_a _ cM0.out, cell_a _ cM1.out, fun _ => (Below.heap_alloc _ _ _ (blk_lt blk0.out)).trans blk0.out, fun h0_ _ => absurd ((hoff 23 (by kernel_rfl)).symm.trans h0_) (by decide), fun h0_ => absurd ((hoff 25 (by kernel_rfl)).symm.trans h0_) (by decide), fun h0_ => (Q_R0 h0_).alloc _, fun h0_ h1_ => (Q_R1 h0_ h1_).alloc _, fun h0_ => absurd ((hoff 21 (by kernel_rfl)).symm.trans h0_) (by decide), fun h0_ h1_ => ⟨(Q_hK1 h0_ h1_).1, (Below.heap_alloc _ _ _ (blk_lt (Q_hK1 h0_ h1_).2)).trans (Q_hK1 h0_ h1_).2⟩, fun _ _ => ⟨siz.out, heap_alloc_new _ _⟩, bel.out.alloc (Nat.le_trans hbW siz.out) _, Nat.le_trans siz.out (by simp), saf.out.alloc _, Q_X12_, Q_X13_, fun _ => rfl, fun h0_ => absurd ((hoff 21 (by kernel_rfl)).symm.trans h0_) (by decide)⟩
        refine steps_cons ?_ ?_
        · rintro b a w' ⟨K1, K2, g1, cap1, g2, cap2, m12_, m13_, m20_, m21_, ha, Q_cG, Q_cL0, Q_cL1, Q_cM0, Q_cM1, Q_blk0, Q_blk1, Q_blk2, Q_R0, Q_R1, Q_R2, Q_hK1, Q_hK2, Q_bel, Q_siz, Q_saf, Q_X12_, Q_X13_, Q_X20_, Q_X21_⟩ hb_ hon hoff
          refine ⟨_, rfl, fun K hK => ?_⟩
          have e71 : a.tmps[71]? = some (vb) := by rw [ha]; exact putSel_on (e := (18, 71, vb)) 18 rfl rfl (hon 18 (by kernel_rfl)) rfl
          have e73 : a.tmps[73]? = some (m20_) := by rw [ha]; exact putSel_on (e := (20, 73, m20_)) 20 rfl rfl (hon 20 (by kernel_rfl)) rfl
          rw [Q_X20_ (hon 20 (by kernel_rfl))] at e73
          replace ha := Aside0.mk ha
          have cG := Aside0.mk Q_cG
          have cL0 := Aside0.mk Q_cL0
          have cL1 := Aside0.mk Q_cL1
          have cM0 := Aside0.mk Q_cM0
          have cM1 := Aside0.mk Q_cM1
          have blk0 := Aside0.mk (Q_blk0 (hoff 23 (by kernel_rfl)))
          have R1 := Aside0.mk (Q_R1 (hon 13 (by kernel_rfl)) hb_)
          have hK2 := Aside0.mk (Q_hK2 (hon 20 (by kernel_rfl)) hb_)
          have bel := Aside0.mk Q_bel
          have siz := Aside0.mk Q_siz
          have saf := Aside0.mk Q_saf
          have HVB : Hid ((vs.set ka (.slice (some ⟨g1, 0, none⟩) (ra.length + 1) cap1 : Value))[kb]? = some vb) := by unfold Hid; rw [List.getElem?_set_ne hne1]; exact Hb.out
          have HRB2 : Hid ((rows.set ka (ra ++ [(⟨kb, wt⟩ : Link)]))[kb]? = some rb) := by unfold Hid; rw [List.getElem?_set_ne hne1]; exact HRb.out
          refine step_append_lies _ (by rfl) (.tmp 71) (.tmp 73) _ (by rfl) base 60 i0 _ 2 16 Try.underlying52 hi0 hz0 hz1 hz2 rfl (by omega) vb rb.length (lcells rb) (eval_of e71) (R1.out.own kb vb rb HVB.out HRB2.out) _ 1 1 [(.int .i64 ka), (.int .i64 wt)] (eval_of e73) (by rfl) (World.news_of_block (cs := #[(.int .i64 ka), (.int .i64 wt)]) hK2.out.2) (by simp [Value.oneCell']) (by omega) (by have := HLb.out; unfold maxLen; omega) (by have := HLb.out; omega) (Nat.le_trans hbW siz.out) _ (by rfl) ?_
          intro gn capn wn hown hgr hat hlt
          refine hK.out _ _ ⟨K1, K2, g1, cap1, gn, capn, m12_, m13_, m20_, ((.slice (some ⟨gn, 0, none⟩) (rb.length + 1) capn : Value)), (by rw [ha.out]; exact putSel_upk 21 hb_ rfl rfl rfl), hgr.cell cG.out NGb.out, hgr.cell cL0.out NLb.out, hgr.cell cL1.out NLb.out, hgr.cell cM0.out NMb.out, hgr.cell cM1.out NMb.out, fun _ => (hgr.block _ (blk_lt blk0.out) NPb.out).trans blk0.out, fun h0_ _ => absurd ((hoff 23 (by kernel_rfl)).symm.trans h0_) (by decide), fun h0_ => absurd ((hoff 25 (by kernel_rfl)).symm.trans h0_) (by decide), fun h0_ => absurd ((hon 13 (by kernel_rfl)).symm.trans h0_) (by decide), fun _ h1_ => absurd ((up_self b 21).symm.trans h1_) (by decide), fun _ => R1.out.upd HVB.out hgr (by simpa [lcells_append, lcells_one] using hown) (by simp) (.inr (by rcases hat with h | h; exact .inl h.symm; exact .inr ⟨gn, rfl, by rw [h]; exact Nat.le_refl _⟩)), fun _ h1_ => absurd ((hon 13 (by kernel_rfl)).symm.trans h1_) (by decide), fun _ h1_ => absurd ((up_self b 21).symm.trans h1_) (by decide), bel.out.grown hgr (Nat.le_trans hbW siz.out) HBb.out, Nat.le_trans siz.out hgr.size, saf.out.grown hgr (fun k hk => (own_typed (R1.out.own kb vb rb HVB.out HRB2.out) k hk).2), Q_X12_, Q_X13_, Q_X20_, fun _ => rfl⟩
        refine steps_cons ?_ ?_
        · rintro b a w' ⟨K1, K2, g1, cap1, g2, cap2, m12_, m13_, m20_, m21_, ha, Q_cG, Q_cL0, Q_cL1, Q_cM0, Q_cM1, Q_blk0, Q_blk1, Q_blk2, Q_R0, Q_R1, Q_R2, Q_hK1, Q_hK2, Q_bel, Q_siz, Q_saf, Q_X12_, Q_X13_, Q_X20_, Q_X21_⟩ hb_ hon hoff
          refine ⟨_, rfl, fun K hK => ?_⟩
          have e54 : a.tmps[54]? = some ((.slice (some ⟨P, 0, none⟩) rows.length rows.length)) := by rw [ha]; exact putSel_on (e := (1, 54, (.slice (some ⟨P, 0, none⟩) rows.length rows.length))) 1 rfl rfl (hon 1 (by kernel_rfl)) rfl
          have e55 : a.tmps[55]? = some ((.int .i64 ka)) := by rw [ha]; exact putSel_on (e := (2, 55, (.int .i64 ka))) 2 rfl rfl (hon 2 (by kernel_rfl)) rfl
          replace ha := Aside0.mk ha
          have cG := Aside0.mk Q_cG
          have cL0 := Aside0.mk Q_cL0
          have cL1 := Aside0.mk Q_cL1
          have cM0 := Aside0.mk Q_cM0
          have cM1 := Aside0.mk Q_cM1
          have blk0 := Aside0.mk (Q_blk0 (hoff 23 (by kernel_rfl)))
          have R2 := Aside0.mk (Q_R2 (hon 21 (by kernel_rfl)))
          have bel := Aside0.mk Q_bel
          have siz := Aside0.mk Q_siz
          have saf := Aside0.mk Q_saf
          refine value_ (w1 := w') (v := (.pointer (some ⟨P, ka, none⟩))) (by rfl) rfl ?_ ?_
          · go_simp
            (try simp only [i64_w])
            try rfl
          refine hK.out _ _ ⟨K1, K2, g1, cap1, g2, cap2, m12_, m13_, m20_, m21_, (by rw [ha.out]; exact putSel_upk 22 hb_ rfl rfl rfl), Q_cG, Q_cL0, Q_cL1, Q_cM0, Q_cM1, Q_blk0, fun h0_ _ => absurd ((hoff 23 (by kernel_rfl)).symm.trans h0_) (by decide), fun h0_ => absurd ((hoff 25 (by kernel_rfl)).symm.trans h0_) (by decide), fun h0_ => absurd ((hon 13 (by kernel_rfl)).symm.trans h0_) (by decide), fun _ h1_ => absurd ((hon 21 (by kernel_rfl)).symm.trans h1_) (by decide), Q_R2, fun _ h1_ => absurd ((hon 13 (by kernel_rfl)).symm.trans h1_) (by decide), fun _ h1_ => absurd ((hon 21 (by kernel_rfl)).symm.trans h1_) (by decide), Q_bel, Q_siz, Q_saf, Q_X12_, Q_X13_, Q_X20_, Q_X21_⟩
        refine steps_cons ?_ ?_
        · rintro b a w' ⟨K1, K2, g1, cap1, g2, cap2, m12_, m13_, m20_, m21_, ha, Q_cG, Q_cL0, Q_cL1, Q_cM0, Q_cM1, Q_blk0, Q_blk1, Q_blk2, Q_R0, Q_R1, Q_R2, Q_hK1, Q_hK2, Q_bel, Q_siz, Q_saf, Q_X12_, Q_X13_, Q_X20_, Q_X21_⟩ hb_ hon hoff
          refine ⟨_, rfl, fun K hK => ?_⟩
          have e75 : a.tmps[75]? = some ((.pointer (some ⟨P, ka, none⟩))) := by rw [ha]; exact putSel_on (e := (22, 75, (.pointer (some ⟨P, ka, none⟩)))) 22 rfl rfl (hon 22 (by kernel_rfl)) rfl
          have e66 : a.tmps[66]? = some (m13_) := by rw [ha]; exact putSel_on (e := (13, 66, m13_)) 13 rfl rfl (hon 13 (by kernel_rfl)) rfl
          rw [Q_X13_ (hon 13 (by kernel_rfl))] at e66
          replace ha := Aside0.mk ha
          have cG := Aside0.mk Q_cG
          have cL0 := Aside0.mk Q_cL0
          have cL1 := Aside0.mk Q_cL1
          have cM0 := Aside0.mk Q_cM0
          have cM1 := Aside0.mk Q_cM1
          have blk0 := Aside0.mk (Q_blk0 hb_)
          have R2 := Aside0.mk (Q_R2 (hon 21 (by kernel_rfl)))
          have bel := Aside0.mk Q_bel
          have siz := Aside0.mk Q_siz
          have saf := Aside0.mk Q_saf
          have q0 := port_cell blk0.out HA.out
          have q1 := blk_free ka blk0.out
          refine skip_ (w1 := w'.setCell ⟨P, ka, none⟩ (.slice (some ⟨g1, 0, none⟩) (ra.length + 1) cap1 : Value)) (by rfl) rfl ?_ ?_
          · go_simp
            try rfl
          refine hK.out _ _ ⟨K1, K2, g1, cap1, g2, cap2, m12_, m13_, m20_, m21_, (by rw [ha.out]; exact putSel_none (v := undef) rfl), cell_far cG.out (by simp; omega), cell_far cL0.out (by simp; omega), cell_far cL1.out (by simp; omega), cell_far cM0.out (by simp; omega), cell_far cM1.out (by simp; omega), fun h0_ => absurd ((up_self b 23).symm.trans h0_) (by decide), fun _ _ => port_set blk0.out haL, fun h0_ => absurd ((hoff 25 (by kernel_rfl)).symm.trans h0_) (by decide), fun h0_ => absurd ((hon 13 (by kernel_rfl)).symm.trans h0_) (by decide), fun _ h1_ => absurd ((hon 21 (by kernel_rfl)).symm.trans h1_) (by decide), fun _ => R2.out.store blk0.out, fun _ h1_ => absurd ((hon 13 (by kernel_rfl)).symm.trans h1_) (by decide), fun _ h1_ => absurd ((hon 21 (by kernel_rfl)).symm.trans h1_) (by decide), bel.out.setCell hPb _, Nat.le_trans siz.out (by simp [World.setCell]), saf.out.set blk0.out, Q_X12_, Q_X13_, Q_X20_, Q_X21_⟩
        refine steps_cons ?_ ?_
        · rintro b a w' ⟨K1, K2, g1, cap1, g2, cap2, m12_, m13_, m20_, m21_, ha, Q_cG, Q_cL0, Q_cL1, Q_cM0, Q_cM1, Q_blk0, Q_blk1, Q_blk2, Q_R0, Q_R1, Q_R2, Q_hK1, Q_hK2, Q_bel, Q_siz, Q_saf, Q_X12_, Q_X13_, Q_X20_, Q_X21_⟩ hb_ hon hoff
          refine ⟨_, rfl, fun K hK => ?_⟩
          have e57 : a.tmps[57]? = some ((.slice (some ⟨P, 0, none⟩) rows.length rows.length)) := by rw [ha]; exact putSel_on (e := (4, 57, (.slice (some ⟨P, 0, none⟩) rows.length rows.length))) 4 rfl rfl (hon 4 (by kernel_rfl)) rfl
          have e58 : a.tmps[58]? = some ((.int .i64 kb)) := by rw [ha]; exact putSel_on (e := (5, 58, (.int .i64 kb))) 5 rfl rfl (hon 5 (by kernel_rfl)) rfl
          replace ha := Aside0.mk ha
          have cG := Aside0.mk Q_cG
          have cL0 := Aside0.mk Q_cL0
          have cL1 := Aside0.mk Q_cL1
          have cM0 := Aside0.mk Q_cM0
          have cM1 := Aside0.mk Q_cM1
          have blk1 := Aside0.mk (Q_blk1 (hon 23 (by kernel_rfl)) (hoff 25 (by kernel_rfl)))
          have R2 := Aside0.mk (Q_R2 (hon 21 (by kernel_rfl)))
          have bel := Aside0.mk Q_bel
          have siz := Aside0.mk Q_siz
          have saf := Aside0.mk Q_saf
          refine value_ (w1 := w') (v := (.pointer (some ⟨P, kb, none⟩))) (by rfl) rfl ?_ ?_
          · go_simp
            (try simp only [i64_w])
            try rfl
          refine hK.out _ _ ⟨K1, K2, g1, cap1, g2, cap2, m12_, m13_, m20_, m21_, (by rw [ha.out]; exact putSel_upk 23 hb_ rfl rfl rfl), Q_cG, Q_cL0, Q_cL1, Q_cM0, Q_cM1, fun h0_ => absurd ((hon 23 (by kernel_rfl)).symm.trans h0_) (by decide), Q_blk1, fun h0_ => absurd ((hoff 25 (by kernel_rfl)).symm.trans h0_) (by decide), fun h0_ => absurd ((hon 13 (by kernel_rfl)).symm.trans h0_) (by decide), fun _ h1_ => absurd ((hon 21 (by kernel_rfl)).symm.trans h1_) (by decide), Q_R2, fun _ h1_ => absurd ((hon 13 (by kernel_rfl)).symm.trans h1_) (by decide), fun _ h1_ => absurd ((hon 21 (by kernel_rfl)).symm.trans h1_) (by decide), Q_bel, Q_siz, Q_saf, Q_X12_, Q_X13_, Q_X20_, Q_X21_⟩
        refine steps_cons ?_ ?_
        · rintro b a w' ⟨K1, K2, g1, cap1, g2, cap2, m12_, m13_, m20_, m21_, ha, Q_cG, Q_cL0, Q_cL1, Q_cM0, Q_cM1, Q_blk0, Q_blk1, Q_blk2, Q_R0, Q_R1, Q_R2, Q_hK1, Q_hK2, Q_bel, Q_siz, Q_saf, Q_X12_, Q_X13_, Q_X20_, Q_X21_⟩ hb_ hon hoff
          refine ⟨_, rfl, fun K hK => ?_⟩
          have e76 : a.tmps[76]? = some ((.pointer (some ⟨P, kb, none⟩))) := by rw [ha]; exact putSel_on (e := (24, 76, (.pointer (some ⟨P, kb, none⟩)))) 23 rfl rfl (hon 24 (by kernel_rfl)) rfl
          have e74 : a.tmps[74]? = some (m21_) := by rw [ha]; exact putSel_on (e := (21, 74, m21_)) 21 rfl rfl (hon 21 (by kernel_rfl)) rfl
          rw [Q_X21_ (hon 21 (by kernel_rfl))] at e74
          replace ha := Aside0.mk ha
          have cG := Aside0.mk Q_cG
          have cL0 := Aside0.mk Q_cL0
          have cL1 := Aside0.mk Q_cL1
          have cM0 := Aside0.mk Q_cM0
          have cM1 := Aside0.mk Q_cM1
          have blk1 := Aside0.mk (Q_blk1 (hon 23 (by kernel_rfl)) hb_)
          have R2 := Aside0.mk (Q_R2 (hon 21 (by kernel_rfl)))
          have bel := Aside0.mk Q_bel
          have siz := Aside0.mk Q_siz
          have saf := Aside0.mk Q_saf
          have HVB : Hid ((vs.set ka (.slice (some ⟨g1, 0, none⟩) (ra.length + 1) cap1 : Value))[kb]? = some vb) := by unfold Hid; rw [List.getElem?_set_ne hne1]; exact Hb.out
          have q0 := port_cell blk1.out HVB.out
          have q1 := blk_free kb blk1.out
          refine skip_ (w1 := w'.setCell ⟨P, kb, none⟩ (.slice (some ⟨g2, 0, none⟩) (rb.length + 1) cap2 : Value)) (by rfl) rfl ?_ ?_
          · go_simp
            try rfl
          refine hK.out _ _ ⟨K1, K2, g1, cap1, g2, cap2, m12_, m13_, m20_, m21_, (by rw [ha.out]; exact putSel_none (v := undef) rfl), cell_far cG.out (by simp; omega), cell_far cL0.out (by simp; omega), cell_far cL1.out (by simp; omega), cell_far cM0.out (by simp; omega), cell_far cM1.out (by simp; omega), fun h0_ => absurd ((hon 23 (by kernel_rfl)).symm.trans h0_) (by decide), fun _ h1_ => absurd ((up_self b 25).symm.trans h1_) (by decide), fun _ => port_set blk1.out (by simpa using hbL), fun h0_ => absurd ((hon 13 (by kernel_rfl)).symm.trans h0_) (by decide), fun _ h1_ => absurd ((hon 21 (by kernel_rfl)).symm.trans h1_) (by decide), fun _ => R2.out.store blk1.out, fun _ h1_ => absurd ((hon 13 (by kernel_rfl)).symm.trans h1_) (by decide), fun _ h1_ => absurd ((hon 21 (by kernel_rfl)).symm.trans h1_) (by decide), bel.out.setCell hPb _, Nat.le_trans siz.out (by simp [World.setCell]), saf.out.set blk1.out, Q_X12_, Q_X13_, Q_X20_, Q_X21_⟩
        exact steps_nil
      · rintro b a w' hall ⟨K1, K2, g1, cap1, g2, cap2, m12_, m13_, m20_, m21_, ha, Q_cG, Q_cL0, Q_cL1, Q_cM0, Q_cM1, Q_blk0, Q_blk1, Q_blk2, Q_R0, Q_R1, Q_R2, Q_hK1, Q_hK2, Q_bel, Q_siz, Q_saf, Q_X12_, Q_X13_, Q_X20_, Q_X21_⟩
        clear R0 bel blk0 cG cL0 cL1 cM0 cM1 saf siz
        have hb0_ := hall 0 (by kernel_rfl)
        have hb1_ := hall 1 (by kernel_rfl)
        have hb2_ := hall 2 (by kernel_rfl)
        have hb3_ := hall 3 (by kernel_rfl)
        have hb4_ := hall 4 (by kernel_rfl)
        have hb5_ := hall 5 (by kernel_rfl)
        have hb6_ := hall 6 (by kernel_rfl)
        have hb7_ := hall 7 (by kernel_rfl)
        have hb8_ := hall 8 (by kernel_rfl)
        have hb9_ := hall 9 (by kernel_rfl)
        have hb10_ := hall 10 (by kernel_rfl)
        have hb11_ := hall 11 (by kernel_rfl)
        have hb12_ := hall 12 (by kernel_rfl)
        have hb13_ := hall 13 (by kernel_rfl)
        have hb14_ := hall 14 (by kernel_rfl)
        have hb15_ := hall 15 (by kernel_rfl)
        have hb16_ := hall 16 (by kernel_rfl)
        have hb17_ := hall 17 (by kernel_rfl)
        have hb18_ := hall 18 (by kernel_rfl)
        have hb19_ := hall 19 (by kernel_rfl)
        have hb20_ := hall 20 (by kernel_rfl)
        have hb21_ := hall 21 (by kernel_rfl)
        have hb22_ := hall 22 (by kernel_rfl)
        have hb23_ := hall 23 (by kernel_rfl)
        have hb24_ := hall 24 (by kernel_rfl)
        have hb25_ := hall 25 (by kernel_rfl)
        subst ha
        obtain rfl := Q_X12_ hb12_
        obtain rfl := Q_X13_ hb13_
        obtain rfl := Q_X20_ hb20_
        obtain rfl := Q_X21_ hb21_
        simp only [putSel, hb0_, hb1_, hb2_, hb3_, hb4_, hb5_, hb6_, hb7_, hb8_, hb9_, hb10_, hb11_, hb12_, hb13_, hb14_, hb15_, hb16_, hb17_, hb18_, hb19_, hb20_, hb21_, hb22_, hb23_, hb24_, hb25_, if_true, Act.put, List.setIfInBounds_toArray, List.set_cons_zero, List.set_cons_succ]
        have cG := Aside0.mk Q_cG
        clear Q_cG
        have cL0 := Aside0.mk Q_cL0
        clear Q_cL0
        have cL1 := Aside0.mk Q_cL1
        clear Q_cL1
        have cM0 := Aside0.mk Q_cM0
        clear Q_cM0
        have cM1 := Aside0.mk Q_cM1
        clear Q_cM1
        clear Q_blk0
        clear Q_blk1
        have blk2 := Aside0.mk (Q_blk2 hb25_)
        clear Q_blk2
        clear Q_R0
        clear Q_R1
        have R2 := Aside0.mk (Q_R2 hb21_)
        clear Q_R2
        clear Q_hK1
        clear Q_hK2
        have bel := Aside0.mk Q_bel
        clear Q_bel
        have siz := Aside0.mk Q_siz
        clear Q_siz
        have saf := Aside0.mk Q_saf
        clear Q_saf
        clear hall hb0_ hb1_ hb2_ hb3_ hb4_ hb5_ hb6_ hb7_ hb8_ hb9_ hb10_ hb11_ hb12_ hb13_ hb14_ hb15_ hb16_ hb17_ hb18_ hb19_ hb20_ hb21_ hb22_ hb23_ hb24_ hb25_
        go_end0
        exact ⟨rfl, ⟨_, by rw [hE.out, HGa.out, HGb.out]; exact ⟨blk2.out, R2.out, hPb⟩⟩, HBW.out.trans bel.out, HSFW.out.trans saf.out⟩
end Go.Proofs.Ythapikakneikbaa
namespace Go.Proofs.Ythapikakneikbaa
open Go.RowKit
structure Good (n : Nat) (rows : List (List Link)) : Prop where
 len : rows.length = n
 rng : ∀ (a : Nat) r l, rows[a]? = some r → l ∈ r → 0 ≤ l.to_ ∧ l.to_ < n ∧ l.to_ ≠ a ∧ 1 ≤ l.wt ∧ l.wt ≤ 15
 nd : ∀ (a : Nat) r, rows[a]? = some r → (r.map Link.to_).Nodup
 sym : ∀ (a : Nat) r l, rows[a]? = some r → l ∈ r → ∃ r', rows[l.to_.toNat]? = some r' ∧ (⟨a, l.wt⟩ : Link) ∈ r'
theorem good_none (n : Nat) : Good n (List.replicate n []) := by
 have h : ∀ (a : Nat) r, (List.replicate n ([] : List Link))[a]? = some r → r = [] := fun a r h => by
  have := List.mem_of_getElem? h; simp at this; exact this.2
 refine ⟨by simp, ?_, ?_, ?_⟩
 ·
  intro a r l h1 h2; rw [h a r h1] at h2; cases h2
 ·
  intro a r h1; rw [h a r h1]; simp
 ·
  intro a r l h1 h2; rw [h a r h1] at h2; cases h2
theorem mem_addLink {back : Bool} {r : List Link} {x l : Link} : l ∈ addLink back r x ↔ l = x ∨ l ∈ r := by
 unfold addLink; cases back <;> simp [or_comm]
theorem nd_addLink {back : Bool} {r : List Link} {x : Link} (h : (r.map Link.to_).Nodup) (hx : ∀ l ∈ r, l.to_ ≠ x.to_) : ((addLink back r x).map Link.to_).Nodup := by
 unfold addLink
 cases back
 ·
  simp only [Bool.false_eq_true, if_false, List.map_append, List.map_cons, List.map_nil]
  rw [List.nodup_append]
  refine ⟨h, by simp, fun a ha b hb e => ?_⟩
  obtain ⟨l, hl, rfl⟩ := List.mem_map.1 ha
  rw [List.mem_singleton.1 hb] at e
  exact hx l hl e
 ·
  simp only [if_true, List.map_cons, List.nodup_cons]
  refine ⟨fun ha => ?_, h⟩
  obtain ⟨l, hl, e⟩ := List.mem_map.1 ha
  exact hx l hl e
theorem linked_false {rows : List (List Link)} {a : Nat} {b : Int} {r : List Link} (h : linkedB rows a b = false) (hr : rows[a]? = some r) : ∀ l ∈ r, l.to_ ≠ b := by
 intro l hl e
 unfold linkedB at h
 rw [List.getD_eq_getElem?_getD, hr] at h
 have := List.any_eq_false.1 h l hl
 simp [e] at this
theorem good_link {n : Nat} {rows : List (List Link)} (h : Good n rows) (back : Bool) {a b : Nat} {wt : Int} (ha : a < n) (hb : b < n) (hw : 1 ≤ wt ∧ wt ≤ 15) : Good n (linkRows back rows a b wt) := by
 unfold linkRows
 split
 ·
  exact h
 ·
  rename_i hc
  have hne : a ≠ b := fun e => hc (.inl e)
  have hlk : linkedB rows a b = false := by
   cases hx : linkedB rows a b with
   | true => exact absurd (.inr hx) hc
   | false => rfl
  obtain ⟨ra, hra⟩ : ∃ ra, rows[a]? = some ra := ⟨_, List.getElem?_eq_getElem (by rw [h.len]; exact ha)⟩
  obtain ⟨rb, hrb⟩ : ∃ rb, rows[b]? = some rb := ⟨_, List.getElem?_eq_getElem (by rw [h.len]; exact hb)⟩
  have ga : rows.getD a [] = ra := by rw [List.getD_eq_getElem?_getD, hra]; rfl
  have gb : rows.getD b [] = rb := by rw [List.getD_eq_getElem?_getD, hrb]; rfl
  rw [ga, gb]
  have la := linked_false hlk hra
  have lb : ∀ l ∈ rb, l.to_ ≠ (a : Int) := fun l hl e => by
   obtain ⟨r', h1, h2⟩ := h.sym b rb l hrb hl
   rw [e, Int.toNat_natCast, hra] at h1
   cases h1
   exact la _ h2 rfl
  generalize hR : (rows.set a (addLink back ra ⟨b, wt⟩)).set b (addLink back rb ⟨a, wt⟩) = R
  have hRa : R[a]? = some (addLink back ra ⟨b, wt⟩) := by
   rw [← hR, List.getElem?_set_ne (fun e => hne e.symm), List.getElem?_set_self (by rw [h.len]; exact ha)]
  have hRb : R[b]? = some (addLink back rb ⟨a, wt⟩) := by
   rw [← hR, List.getElem?_set_self (by rw [List.length_set, h.len]; exact hb)]
  have hRo : ∀ k, k ≠ a → k ≠ b → R[k]? = rows[k]? := fun k h1 h2 => by
   rw [← hR, List.getElem?_set_ne (fun e => h2 e.symm), List.getElem?_set_ne (fun e => h1 e.symm)]
  have hRl : R.length = n := by rw [← hR, List.length_set, List.length_set, h.len]
  -- every old link of a row lies in the new row
  have old : ∀ (k : Nat) r l, rows[k]? = some r → l ∈ r → ∃ r', R[k]? = some r' ∧ l ∈ r' := fun k r l h1 h2 => by
   by_cases e1 : k = a
   ·
    subst e1; rw [hra] at h1; cases h1; exact ⟨_, hRa, mem_addLink.2 (.inr h2)⟩
   ·
    by_cases e2 : k = b
    ·
     subst e2; rw [hrb] at h1; cases h1; exact ⟨_, hRb, mem_addLink.2 (.inr h2)⟩
    ·
     exact ⟨r, by rw [hRo k e1 e2, h1], h2⟩
  -- and what lies in the new row is old, or one of the two
  have new : ∀ (k : Nat) r l, R[k]? = some r → l ∈ r → (∃ r0, rows[k]? = some r0 ∧ l ∈ r0) ∨ (k = a ∧ l = ⟨b, wt⟩) ∨ (k = b ∧ l = ⟨a, wt⟩) := fun k r l h1 h2 => by
   by_cases e1 : k = a
   ·
    subst e1; rw [hRa] at h1; cases h1
    rcases mem_addLink.1 h2 with e | h2
    ·
     exact .inr (.inl ⟨rfl, e⟩)
    ·
     exact .inl ⟨ra, hra, h2⟩
   ·
    by_cases e2 : k = b
    ·
     subst e2; rw [hRb] at h1; cases h1
     rcases mem_addLink.1 h2 with e | h2
     ·
      exact .inr (.inr ⟨rfl, e⟩)
     ·
      exact .inl ⟨rb, hrb, h2⟩
    ·
     rw [hRo k e1 e2] at h1; exact .inl ⟨r, h1, h2⟩
  refine ⟨hRl, ?_, ?_, ?_⟩
  ·
   intro k r l h1 h2
   rcases new k r l h1 h2 with ⟨r0, h3, h4⟩ | ⟨rfl, rfl⟩ | ⟨rfl, rfl⟩
   ·
    exact h.rng k r0 l h3 h4
   ·
    exact ⟨by simp, by simp; omega, by simp; omega, hw.1, hw.2⟩
   ·
    exact ⟨by simp, by simp; omega, by simp; omega, hw.1, hw.2⟩
  ·
   intro k r h1
   by_cases e1 : k = a
   ·
    subst e1; rw [hRa] at h1; cases h1; exact nd_addLink (h.nd _ _ hra) la
   ·
    by_cases e2 : k = b
    ·
     subst e2; rw [hRb] at h1; cases h1; exact nd_addLink (h.nd _ _ hrb) lb
    ·
     rw [hRo k e1 e2] at h1; exact h.nd k r h1
  ·
   intro k r l h1 h2
   rcases new k r l h1 h2 with ⟨r0, h3, h4⟩ | ⟨rfl, rfl⟩ | ⟨rfl, rfl⟩
   ·
    obtain ⟨r', h5, h6⟩ := h.sym k r0 l h3 h4
    exact old _ r' _ h5 h6
   ·
    exact ⟨_, by simpa using hRb, mem_addLink.2 (.inl rfl)⟩
   ·
    exact ⟨_, by simpa using hRa, mem_addLink.2 (.inl rfl)⟩
theorem good_row {n : Nat} {rows : List (List Link)} (h : Good n rows) {r : List Link} (hr : r ∈ rows) : r.length ≤ n := by
 obtain ⟨a, ha, rfl⟩ := List.mem_iff_getElem.1 hr
 have h1 := h.nd a _ (List.getElem?_eq_getElem ha)
 have h2 := List.Nodup.length_le_of_subset h1 (l₂ := (List.range n).map (fun k : Nat => (k : Int))) fun x hx => by
  obtain ⟨l, hl, rfl⟩ := List.mem_map.1 hx
  obtain ⟨r0, r1, _⟩ := h.rng a _ l (List.getElem?_eq_getElem ha) hl
  exact List.mem_map.2 ⟨l.to_.toNat, List.mem_range.2 (by omega), by omega⟩
 simpa using h2
theorem mem_edges {ids : List Int} {rows : List (List Link)} {e : Edge} : e ∈ (⟨ids, rows⟩ : Graph).edges ↔ ∃ (k : Nat) (r : List Link), rows[k]? = some r ∧ e.fr = k ∧ (⟨e.to_, e.wt⟩ : Link) ∈ r := by
 unfold Graph.edges
 rw [mem_edgesFrom]
 simp
theorem keys_nodup {rows : List (List Link)} (h : ∀ (a : Nat) r, rows[a]? = some r → (r.map Link.to_).Nodup) (v : Int) : ((edgesFrom v rows).map Edge.key).Nodup := by
 induction rows generalizing v with
 | nil => simp [edgesFrom]
 | cons p r ih =>
  simp only [edgesFrom, List.map_append]
  rw [List.nodup_append]
  refine ⟨?_, ih (fun a r' hr => h (a + 1) r' (by simpa using hr)) (v + 1), ?_⟩
  ·
   have := h 0 p rfl
   unfold rowEdges
   rw [List.map_map]
   have e1 : (Edge.key ∘ fun l : Link => (⟨v, l.to_, l.wt⟩ : Edge)) = (fun x : Int => (v, x)) ∘ Link.to_ := by funext l; rfl
   rw [e1, ← List.map_map]
   rw [List.nodup_iff_pairwise_ne, List.pairwise_map]
   exact (List.nodup_iff_pairwise_ne.1 this).imp fun hne e => hne (by simpa using e)
  ·
   intro x hx y hy e
   obtain ⟨e1, h1, rfl⟩ := List.mem_map.1 hx
   obtain ⟨e2, h2, rfl⟩ := List.mem_map.1 hy
   unfold rowEdges at h1
   obtain ⟨l, _, rfl⟩ := List.mem_map.1 h1
   obtain ⟨k, ps, _, h3, _⟩ := mem_edgesFrom.1 h2
   have h4 : v = e2.fr := congrArg Prod.fst e
   omega
theorem good_valid {n : Nat} {rows : List (List Link)} {ids : List Int} (h : Good n rows) (h1 : 1 ≤ n) (h2 : n ≤ 24) (hl : ids.length = n) (hi : ∀ x ∈ ids, 0 ≤ x ∧ x < 256) (hn : ids.Nodup) : (⟨ids, rows⟩ : Graph).valid = true := by
 rw [valid_iff]
 refine ⟨⟨by simp [h.len, h1], by simp [h.len, h2], by simp [h.len, hl]⟩, fun x hx => ?_, hn, ?_, ?_, ?_⟩
 ·
  have := hi x hx
  simp [okID]; omega
 ·
  intro e he
  obtain ⟨k, r, h3, h4, h5⟩ := mem_edges.1 he
  obtain ⟨a1, a2, a3, a4, a5⟩ := h.rng k r _ h3 h5
  simp only at a1 a2 a3 a4 a5
  simp only [Edge.ok, h.len, decide_eq_true_eq]
  omega
 ·
  exact keys_nodup h.nd 0
 ·
  intro e he
  obtain ⟨k, r, h3, h4, h5⟩ := mem_edges.1 he
  obtain ⟨r', h6, h7⟩ := h.sym k r _ h3 h5
  obtain ⟨a1, _⟩ := h.rng k r _ h3 h5
  simp only at a1 h6 h7
  simp only [Edge.back, decide_eq_true_eq]
  refine mem_edges.2 ⟨e.to_.toNat, r', h6, by simp only; omega, ?_⟩
  rw [h4]
  exact h7
end Go.Proofs.Ythapikakneikbaa
/-
  What selfstabref01.Valid asks for is what 'valid' says. (No program in this text.)
-/
namespace Go.Proofs.Ythapikakneikbaa
theorem row_nodup {g : Graph} (h : g.valid = true) {v : Nat} (hv : v < g.ports.length) : ((g.ports.getD v []).map Link.to_).Nodup := by
  obtain ⟨_, _, _, _, hnd, _⟩ := (valid_iff g).1 h
  have e : g.ports.getD v [] = g.ports[v] := by simp [List.getD_eq_getElem?_getD, hv]
  rw [e]
  have hsub : (rowEdges (0 + (v : Int)) g.ports[v]).Sublist g.edges := by
    unfold Graph.edges
    have e2 : g.ports = g.ports.take v ++ (g.ports[v] :: g.ports.drop (v + 1)) := by rw [List.getElem_cons_drop, List.take_append_drop]
    rw [show edgesFrom 0 g.ports = edgesFrom 0 (g.ports.take v ++ (g.ports[v] :: g.ports.drop (v + 1))) from by rw [← e2], edgesFrom_append]
    have e3 : ((g.ports.take v).length : Int) = v := by rw [List.length_take]; omega
    rw [e3]
    simp only [edgesFrom]
    exact ((List.sublist_append_left _ _).trans (List.sublist_append_right _ _))
  have hn2 := (hsub.map Edge.key).nodup hnd
  have e4 : (rowEdges (0 + (v : Int)) g.ports[v]).map Edge.key = (g.ports[v].map Link.to_).map fun x => (0 + (v : Int), x) := by
    unfold rowEdges
    rw [List.map_map, List.map_map]
    rfl
  rw [e4, List.nodup_iff_pairwise_ne, List.pairwise_map] at hn2
  rw [List.nodup_iff_pairwise_ne]
  exact hn2.imp fun h e => h (by rw [e])
theorem row_short {g : Graph} (h : g.valid = true) {v : Nat} (hv : v < g.ports.length) : (g.ports.getD v []).length < g.ports.length := by
  have h1 := row_nodup h hv
  have h2 := List.Nodup.length_le_of_subset h1 (l₂ := ((List.range g.ports.length).erase v).map (fun k : Nat => (k : Int))) fun x hx => by
    obtain ⟨l, hl, rfl⟩ := List.mem_map.1 hx
    obtain ⟨r0, r1, r2, _⟩ := valid_link h hl
    refine List.mem_map.2 ⟨l.to_.toNat, ?_, by omega⟩
    rw [List.mem_erase_of_ne (by omega)]
    exact List.mem_range.2 (by omega)
  rw [List.length_map, List.length_map, List.length_erase_of_mem (List.mem_range.2 hv), List.length_range] at h2
  omega
theorem not_true {b : Bool} (h : b = true → False) : b = false := by cases b with | false => rfl | true => exact absurd rfl fun e => h e
section
variable {g : Graph} {v : Nat}
theorem bad_id (hv : v < g.ids.length) (h : okID (g.ids.getD v 0) = false) : g.valid = false := not_true fun hV => by
  have := ((valid_iff g).1 hV).2.1 (g.ids.getD v 0) (by simp [List.getD_eq_getElem?_getD, hv])
  rw [h] at this; cases this
theorem bad_len (hv : v < g.ports.length) (h : g.ports.length ≤ (g.ports.getD v []).length) : g.valid = false := not_true fun hV => by
  have := row_short hV hv; omega
theorem bad_links (hv : v < g.ports.length) (h : linksB (g.ports.getD v []) v g.ports.length = false) : g.valid = false := not_true fun hV => by
  have : linksB (g.ports.getD v []) v g.ports.length = true := by
    simp only [linksB, Bool.and_eq_true, List.all_eq_true, apart, decide_eq_true_eq]
    refine ⟨fun l hl => ?_, row_nodup hV hv⟩
    have := valid_link hV hl
    simp only [linkOK, decide_eq_true_eq]
    omega
  rw [h] at this; cases this
theorem bad_same {u : Nat} (hu : u < v) (hv : v < g.ids.length) (h : g.ids.getD u 0 = g.ids.getD v 0) : g.valid = false := not_true fun hV => by
  have := ((valid_iff g).1 hV).2.2.1
  rw [List.nodup_iff_pairwise_ne, List.pairwise_iff_getElem] at this
  have := this u v (by omega) hv hu
  simp [List.getD_eq_getElem?_getD, hv, show u < g.ids.length by omega] at h
  exact this h
end
theorem port_some {ps : List Link} {u : Int} {k : Nat} (h : portOf ps u = k) : ∃ hk : k < ps.length, ps[k].to_ = u := by
  unfold portOf at h
  cases hf : ps.findIdx? (fun l => l.to_ == u) with
  | none => rw [hf] at h; simp at h
  | some j =>
    rw [hf] at h
    have h' : (j : Int) = k := by simpa using h
    obtain rfl : j = k := by omega
    rw [List.findIdx?_eq_some_iff_getElem] at hf
    obtain ⟨h1, h2, _⟩ := hf
    exact ⟨h1, by simpa using h2⟩
theorem port_none {ps : List Link} {u : Int} (h : portOf ps u < 0) : ∀ l ∈ ps, l.to_ ≠ u := by
  unfold portOf at h
  cases hf : ps.findIdx? (fun l => l.to_ == u) with
  | some j => rw [hf] at h; simp at h; omega
  | none =>
    rw [List.findIdx?_eq_none_iff] at hf
    intro l hl
    have := hf l hl
    simpa using this
theorem port_bd (ps : List Link) (u : Int) : -1 ≤ portOf ps u ∧ portOf ps u < ps.length := by
  unfold portOf
  cases hf : ps.findIdx? (fun l => l.to_ == u) with
  | none => simp; omega
  | some j =>
    rw [List.findIdx?_eq_some_iff_getElem] at hf
    obtain ⟨h1, _⟩ := hf
    simp; omega
/-- The link has the same link as its other end's. -/
def BackOK (P : List (List Link)) (v : Nat) (l : Link) : Prop := ∃ (k : Nat) (_ : k < (P.getD l.to_.toNat []).length), portAt P l.to_.toNat v = k ∧ ((P.getD l.to_.toNat [])[k]).wt = l.wt
theorem bad_back {g : Graph} {v : Nat} {l : Link} (hl : l ∈ g.ports.getD v []) (h : ¬ BackOK g.ports v l) : g.valid = false := not_true fun hV => by
  have hin := valid_link hV hl
  have hv : v < g.ports.length := by
    rcases Nat.lt_or_ge v g.ports.length with h | h
    · exact h
    · rw [List.getD_eq_getElem?_getD, List.getElem?_eq_none h] at hl; cases hl
  have hm : (⟨v, l.to_, l.wt⟩ : Edge) ∈ g.edges := mem_edgesFrom.2 ⟨v, g.ports[v], List.getElem?_eq_getElem hv, by simp, by simpa [List.getD_eq_getElem?_getD, hv] using hl⟩
  have hb := ((valid_iff g).1 hV).2.2.2.2.2 _ hm
  simp only [Edge.back, decide_eq_true_eq] at hb
  obtain ⟨k, r, hr, hk, hmem⟩ := mem_edges.1 hb
  simp only at hk hmem
  have hkt : k = l.to_.toNat := by omega
  subst hkt
  have hrD : g.ports.getD l.to_.toNat [] = r := by rw [List.getD_eq_getElem?_getD, hr]; rfl
  have hkl : l.to_.toNat < g.ports.length := by omega
  refine h ?_
  by_cases hp : portAt g.ports l.to_.toNat v < 0
  · exact absurd rfl (port_none hp _ (by rw [hrD]; exact hmem))
  · obtain ⟨j, hj⟩ : ∃ j : Nat, portAt g.ports l.to_.toNat v = j := ⟨(portAt g.ports l.to_.toNat v).toNat, by omega⟩
    obtain ⟨h1, h2⟩ := port_some hj
    refine ⟨j, h1, hj, ?_⟩
    have hnd := row_nodup hV hkl
    rw [hrD] at hnd
    simp only [hrD] at h1 h2 ⊢
    obtain ⟨i, hi, he⟩ := List.mem_iff_getElem.1 hmem
    rw [List.nodup_iff_pairwise_ne, List.pairwise_iff_getElem] at hnd
    have hij : i = j := by
      rcases Nat.lt_trichotomy i j with hij | hij | hij
      · have := hnd i j (by simpa using hi) (by simpa using h1) hij
        simp only [List.getElem_map, he, h2] at this
        exact absurd rfl this
      · exact hij
      · have := hnd j i (by simpa using h1) (by simpa using hi) hij
        simp only [List.getElem_map, he, h2] at this
        exact absurd rfl this
    subst hij
    rw [he]
/-- What the first loop asks at a node. -/
def RowOK (g : Graph) (v : Nat) : Prop := okID (g.ids.getD v 0) = true ∧ (g.ports.getD v []).length < g.ports.length ∧ linksB (g.ports.getD v []) v g.ports.length = true ∧ ∀ u, u < v → g.ids.getD u 0 ≠ g.ids.getD v 0
theorem ref_good {g : Graph} (h : 1 ≤ g.ports.length ∧ g.ports.length ≤ 24 ∧ g.ids.length = g.ports.length) (h1 : ∀ v, v < g.ports.length → RowOK g v) (h2 : ∀ v, v < g.ports.length → ∀ l ∈ g.ports.getD v [], BackOK g.ports v l) : g.valid = true := by
  have row : ∀ (a : Nat) r, g.ports[a]? = some r → a < g.ports.length ∧ g.ports.getD a [] = r := fun a r hr => ⟨(List.getElem?_eq_some_iff.1 hr).1, by rw [List.getD_eq_getElem?_getD, hr]; rfl⟩
  have hok : ∀ (a : Nat) r, g.ports[a]? = some r → linksB r a g.ports.length = true := fun a r hr => by
    obtain ⟨h3, h4⟩ := row a r hr
    rw [← h4]; exact (h1 a h3).2.2.1
  have hG : Good g.ports.length g.ports := by
    refine ⟨rfl, fun a r l hr hl => ?_, fun a r hr => ?_, fun a r l hr hl => ?_⟩
    · have := hok a r hr
      simp only [linksB, Bool.and_eq_true, List.all_eq_true] at this
      have := this.1 l hl
      simp only [linkOK, decide_eq_true_eq] at this
      exact this
    · have := hok a r hr
      simp only [linksB, Bool.and_eq_true, apart, decide_eq_true_eq] at this
      exact this.2
    · obtain ⟨h3, h4⟩ := row a r hr
      obtain ⟨k, hk, hp, hw⟩ := h2 a h3 l (by rw [h4]; exact hl)
      obtain ⟨hk2, ht⟩ := port_some hp
      have hlt : l.to_.toNat < g.ports.length := by
        rcases Nat.lt_or_ge l.to_.toNat g.ports.length with h | h
        · exact h
        · rw [List.getD_eq_getElem?_getD, List.getElem?_eq_none h] at hk; simp at hk
      refine ⟨g.ports.getD l.to_.toNat [], by simp [List.getD_eq_getElem?_getD, hlt], ?_⟩
      have : (⟨(a : Int), l.wt⟩ : Link) = (g.ports.getD l.to_.toNat [])[k] := by
        rw [← ht, ← hw]
      rw [this]
      exact List.getElem_mem hk
  have hids : ∀ x ∈ g.ids, 0 ≤ x ∧ x < 256 := fun x hx => by
    obtain ⟨v, hv, rfl⟩ := List.mem_iff_getElem.1 hx
    have := (h1 v (by omega)).1
    simp only [List.getD_eq_getElem?_getD, List.getElem?_eq_getElem hv, Option.getD_some, okID, decide_eq_true_eq] at this
    omega
  have hnd : g.ids.Nodup := by
    rw [List.nodup_iff_pairwise_ne, List.pairwise_iff_getElem]
    intro i j hi hj hij
    have := (h1 j (by omega)).2.2.2 i hij
    simpa [List.getD_eq_getElem?_getD, hi, hj] using this
  exact good_valid (ids := g.ids) hG h.1 h.2.1 h.2.2 hids hnd
end Go.Proofs.Ythapikakneikbaa
/-
  selfstabref01.Valid.
-/
namespace Go.Proofs.Ythapikakneikbaa
open Go.RowKit
set_option maxHeartbeats 8000000 in
set_option maxRecDepth 100000 in
theorem refvalid_late (w : World) (A0 : Option Addr) (c0 : Nat) (A1 : Option Addr) (c1 : Nat) (g : Graph) (hg : IsGraph w A0 c0 A1 c1 g) (h1 : 1 ≤ g.ports.length) (h2 : g.ports.length ≤ 24) (h3 : g.ids.length = g.ports.length) :
    Calls Try.prog 75 #[.agg #[.slice A0 g.ids.length c0, .slice A1 g.ports.length c1]] w fun e w' => e = .returned (.bool g.valid) ∧ Below w.heap.size w w' := by
  have H3 := Lib.hid h3
  have HG := Lib.hid hg
  have t1 : inB (g.ports.length : Int) 1 24 = true := by unfold inB; exact decide_eq_true ⟨by omega, by omega⟩
  have t2 : ((g.ids.length : Int) != (g.ports.length : Int)) = false := by rw [h3]; simp
  have T1 := Lib.hid t1
  clear h3 hg t1
  go_enter Try.func75, Try.ntmps75
  go_wp2_with fail
  refine (in_calls _ _ _ _).mono ?_
  rintro e w1 ⟨rfl, rfl⟩
  rw [T1.out]
  go_wp2_with fail
  have hb0 := (Below.refl w.heap.size w).alloc (Nat.le_refl _) (.cells #[.slice A0 g.ids.length c0, .slice A1 g.ports.length c1] 27)
  have bG : (w.alloc (.cells #[.slice A0 g.ids.length c0, .slice A1 g.ports.length c1] 27)).heap[w.heap.size]? = some (.cells #[.slice A0 g.ids.length c0, .slice A1 g.ports.length c1] 27 (0, 0)) := blk_new rfl
  generalize w.alloc _ = w1 at hb0 bG ⊢
  have HB0 := Lib.hid hb0
  have HBG := Lib.hid bG
  clear hb0 bG t2
  go_loopw [4] (fun i wr => ∃ v : Nat, v ≤ g.ports.length ∧ i = .int .i64 v ∧ (∀ u, u < v → RowOK g u) ∧ Below w.heap.size w wr ∧ wr.heap[w.heap.size]? = some (.cells #[.slice A0 g.ids.length c0, .slice A1 g.ports.length c1] 27 (0, 0))) (fun i _ => g.ports.length - (intOf i).toNat)
  case atStart => exact ⟨0, Nat.zero_le _, rfl, fun _ h => absurd h (Nat.not_lt_zero _), HB0.out, HBG.out⟩
  case round =>
    obtain ⟨wv, rfl⟩ : ∃ wv : World, wv = wr := ⟨_, rfl⟩
    obtain ⟨v, hv, rfl, hrow, hb, hbg⟩ := hrel
    have HROW := Lib.hid hrow
    have HB := Lib.hid hb
    have HBv := Lib.hid hbg
    have cG0 := blk_cell (j := 0) (v := .slice A0 g.ids.length c0) hbg rfl
    have cG1 := blk_cell (j := 1) (v := .slice A1 g.ports.length c1) hbg rfl
    clear hrow hb hbg HBG HB0
    by_cases hlt : v < g.ports.length
    · have hli : v < g.ids.length := by have := H3.out; omega
      have hlI : (v : Int) < (g.ids.length : Int) := by omega
      obtain ⟨ad, rfl, hc⟩ := Kd.at_int (HG.out.below HB.out).ids v hli
      obtain ⟨ad2, A4, c4, rfl, hcell, hl4, hC4⟩ := Kd.at_slice (HG.out.below HB.out).ports v hlt
      have BID : Hid (okID (g.ids.getD v 0) = false → g.valid = false) := bad_id hli
      have BLEN : Hid (g.ports.length ≤ (g.ports.getD v []).length → g.valid = false) := bad_len hlt
      have BLK : Hid (linksB (g.ports.getD v []) v g.ports.length = false → g.valid = false) := bad_links hlt
      have HI : Hid (g.ids.getD v 0 = g.ids[v]) := by unfold Hid; simp [List.getD_eq_getElem?_getD, hli]
      have HP : Hid (g.ports.getD v [] = g.ports[v]) := by unfold Hid; simp [List.getD_eq_getElem?_getD, hlt]
      rw [HI.out] at BID
      rw [HP.out] at BLEN BLK
      generalize g.ids[v] = y at hc BID HI
      generalize g.ports[v] = ps at hcell hl4 hC4 BLEN BLK HP
      have hpm := Kd.C_max hC4
      have HC4 := Lib.hid hC4
      clear hC4
      go_wp2_with fail
      refine (in_calls _ _ _ _).mono ?_
      rintro e w3 ⟨rfl, rfl⟩
      cases hok : inB y 0 255 with
      | false =>
        have HE := Lib.hid (BID.out hok)
        go_wp2_with fail
        go_ret
        exact ⟨by rw [HE.out]; rfl, HB.out⟩
      | true =>
        have HOK : Hid (okID y = true) := hok
        by_cases hlen : ps.length < g.ports.length
        · have hlenb : ¬ (g.ports.length : Int) ≤ (ps.length : Int) := by omega
          go_wp2_with fail
          refine (linksValid_calls _ _ _ ps HC4.out v g.ports.length (by omega) (by omega)).mono ?_
          rintro e w4 ⟨rfl, hb4⟩
          have hw4 := HB.out.trans (hb4.mono HB.out.size)
          have HB4 := Lib.hid hw4
          have HBG4 := Lib.hid (blk_below HBv.out hb4)
          clear hb4 hw4
          cases hlk : linksB ps v g.ports.length with
          | false =>
            have HE := Lib.hid (BLK.out hlk)
            clear hlk
            go_wp2_with fail
            go_ret
            exact ⟨by rw [HE.out]; rfl, HB4.out⟩
          | true =>
            have HLK := Lib.hid hlk
            clear hlk cG0 cG1 hok
            go_wp2_with fail
            have HLEN := Lib.hid hlen
            clear hlen hlenb
            go_loopw [5] (fun i wr => ∃ u : Nat, u ≤ v ∧ i = .int .i64 u ∧ (∀ t, t < u → g.ids.getD t 0 ≠ y) ∧ Below w.heap.size w wr ∧ wr.heap[w.heap.size]? = some (.cells #[.slice (some ad) g.ids.length c0, .slice (some ad2) g.ports.length c1] 27 (0, 0))) (fun i _ => v - (intOf i).toNat)
            case atStart => exact ⟨0, Nat.zero_le _, rfl, fun _ h => absurd h (Nat.not_lt_zero _), HB4.out, HBG4.out⟩
            case round =>
              obtain ⟨wq, rfl⟩ : ∃ wq : World, wq = wr := ⟨_, rfl⟩
              obtain ⟨u, hu, rfl, hne, hbq, hgq⟩ := hrel
              have HNE := Lib.hid hne
              have HBQ := Lib.hid hbq
              have HGQ := Lib.hid hgq
              have cG0 := blk_cell (j := 0) (v := .slice (some ad) g.ids.length c0) hgq rfl
              clear hne hbq hgq
              by_cases huv : u < v
              · have hul : u < g.ids.length := by omega
                obtain ⟨ad5, hA5, hcu⟩ := Kd.at_int (HG.out.below HBQ.out).ids u hul
                cases hA5
                obtain ⟨ad6, hA6, hcv⟩ := Kd.at_int (HG.out.below HBQ.out).ids v hli
                cases hA6
                have HIv : Hid (g.ids[v] = y) := by unfold Hid; have := HI.out; simpa [List.getD_eq_getElem?_getD, hli] using this
                rw [HIv.out] at hcv
                have HIu : Hid (g.ids.getD u 0 = g.ids[u]) := by unfold Hid; simp [List.getD_eq_getElem?_getD, hul]
                have HSAME : Hid (g.ids[u] = y → g.valid = false) := fun h => bad_same huv hli (by rw [HIu.out, HI.out, h])
                have HN2 : Hid (g.ids[u] ≠ y → ∀ t, t < u + 1 → g.ids.getD t 0 ≠ y) := fun h t ht => by
                  by_cases e : t = u
                  · subst e; rw [HIu.out]; exact h
                  · exact HNE.out t (by omega)
                generalize g.ids[u] = z at hcu HSAME HN2
                clear HIu HIv
                have b1 : (u : Int) < (g.ids.length : Int) := by omega
                have b3 : (0 : Int) ≤ (u : Int) := by omega
                have b4 : (0 : Int) ≤ (v : Int) := by omega
                by_cases he : z = y
                · have t5 : (z == y) = true := by simp [he]
                  have HE := Lib.hid (HSAME.out he)
                  clear he
                  go_wp2_with fail
                  go_quiet (fail)
                  go_wp2_with fail
                  go_ret
                  exact ⟨by rw [HE.out]; rfl, below_drewN HBQ.out _⟩
                · have t5 : (z == y) = false := by simp [he]
                  have HE := Lib.hid (HN2.out he)
                  clear he
                  go_wp2_with fail
                  go_quiet (fail)
                  go_wp2_with fail
                  go_roundw
                  case rel => exact ⟨u + 1, by omega, by go_num, HE.out, below_drewN HBQ.out _, HGQ.out⟩
                  case measure => simp [intOf]; omega
              · have HS : Hid (∀ u, u < v + 1 → RowOK g u) := fun u hu => by
                  by_cases e : u = v
                  · subst e; exact ⟨by rw [HI.out]; exact HOK.out, by rw [HP.out]; exact HLEN.out, by rw [HP.out]; exact HLK.out, fun t ht => by rw [HI.out]; exact HNE.out t (by omega)⟩
                  · exact HROW.out u (by omega)
                go_wp2_with fail
                go_roundw
                case rel => exact ⟨v + 1, by omega, by go_num, HS.out, HBQ.out, HGQ.out⟩
                case measure => simp [intOf]; omega
        · have HE := Lib.hid (BLEN.out (by omega))
          have hlenb : (g.ports.length : Int) ≤ (ps.length : Int) := by omega
          go_wp2_with fail
          go_ret
          exact ⟨by rw [HE.out]; rfl, HB.out⟩
    · have HALL : Hid (∀ u, u < g.ports.length → RowOK g u) := fun u hu => HROW.out u (by omega)
      clear HROW cG0 cG1
      go_wp2_with fail
      go_loopw [6] (fun i wr => ∃ v : Nat, v ≤ g.ports.length ∧ i = .int .i64 v ∧ (∀ u, u < v → ∀ l ∈ g.ports.getD u [], BackOK g.ports u l) ∧ Below w.heap.size w wr ∧ wr.heap[w.heap.size]? = some (.cells #[.slice A0 g.ids.length c0, .slice A1 g.ports.length c1] 27 (0, 0))) (fun i _ => g.ports.length - (intOf i).toNat)
      case atStart => exact ⟨0, Nat.zero_le _, rfl, fun _ h => absurd h (Nat.not_lt_zero _), HB.out, HBv.out⟩
      case round =>
        obtain ⟨wz, rfl⟩ : ∃ wz : World, wz = wr := ⟨_, rfl⟩
        obtain ⟨v, hv, rfl, hback, hbz, hgz⟩ := hrel
        have HBACK := Lib.hid hback
        have HBZ := Lib.hid hbz
        have HGZ := Lib.hid hgz
        clear hback hbz hgz HB HBv
        by_cases hlt : v < g.ports.length
        · go_wp2_with fail
          go_loopw [7] (fun i wr => ∃ j : Nat, j ≤ (g.ports.getD v []).length ∧ i = .int .i64 j ∧ (∀ l ∈ (g.ports.getD v []).take j, BackOK g.ports v l) ∧ Below w.heap.size w wr ∧ wr.heap[w.heap.size]? = some (.cells #[.slice A0 g.ids.length c0, .slice A1 g.ports.length c1] 27 (0, 0))) (fun i _ => (g.ports.getD v []).length - (intOf i).toNat)
          case atStart => exact ⟨0, Nat.zero_le _, rfl, fun _ h => by simp at h, HBZ.out, HGZ.out⟩
          case round =>
            obtain ⟨wq, rfl⟩ : ∃ wq : World, wq = wr := ⟨_, rfl⟩
            obtain ⟨j, hj, rfl, hbk, hbq, hgq⟩ := hrel
            have HBK := Lib.hid hbk
            have HBQ := Lib.hid hbq
            have HGQ := Lib.hid hgq
            have cG0 := blk_cell (j := 0) (v := .slice A0 g.ids.length c0) hgq rfl
            have cG1 := blk_cell (j := 1) (v := .slice A1 g.ports.length c1) hgq rfl
            have hzq := blk_lt hgq
            clear hbk hbq hgq HBZ HGZ
            obtain ⟨ad2, A4, c4, rfl, hcell, hl4, hC4⟩ := Kd.at_slice (HG.out.below HBQ.out).ports v hlt
            have HP : Hid (g.ports.getD v [] = g.ports[v]) := by unfold Hid; simp [List.getD_eq_getElem?_getD, hlt]
            rw [HP.out] at hj
            generalize g.ports[v] = ps at hcell hl4 hC4 HP hj
            have hpm := Kd.C_max hC4
            have HC4 := Lib.hid hC4
            clear hC4
            by_cases hjl : j < ps.length
            · obtain ⟨ad3, rfl, hx, hy⟩ := at_link HC4.out j hjl
              have HM : Hid (ps[j] ∈ g.ports.getD v []) := by unfold Hid; rw [HP.out]; exact List.getElem_mem hjl
              have HOKL : Hid (linkOK v g.ports.length ps[j] = true) := by
                have := (HALL.out v hlt).2.2.1
                simp only [linksB, Bool.and_eq_true, List.all_eq_true] at this
                exact this.1 _ HM.out
              have HTK : Hid (BackOK g.ports v ps[j] → ∀ l ∈ (g.ports.getD v []).take (j + 1), BackOK g.ports v l) := fun h l hl => by
                rw [HP.out, List.take_succ_eq_append_getElem hjl] at hl
                rcases List.mem_append.1 hl with hl | hl
                · exact HBK.out l (by rw [HP.out]; exact hl)
                · rw [List.mem_singleton.1 hl]; exact h
              generalize ps[j] = l at hx hy HM HOKL HTK
              obtain ⟨lt, lw⟩ := l
              have hok := HOKL.out
              simp only [linkOK, decide_eq_true_eq] at hok
              obtain ⟨o1, o2, _⟩ := hok
              obtain ⟨a, rfl⟩ := Int.eq_ofNat_of_zero_le o1
              have hal : a < g.ports.length := by omega
              have hB0 := HBQ.out
              simp only at hx hy
              have HBAD : Hid (¬ BackOK g.ports v ⟨(a : Int), lw⟩ → g.valid = false) := fun h => bad_back HM.out h
              have hpb := port_bd (g.ports.getD a []) (v : Int)
              have HPA : Hid (portAt g.ports a v = portOf (g.ports.getD a []) v) := rfl
              go_wp2_with fail
              refine (port_calls _ _ _ _ g.ports (Kd.C_below (HG.out.below HBQ.out).ports ((Below.refl _ _).alloc (Nat.le_refl _) _)) a hal _).mono ?_
              rintro e w6 ⟨rfl, hb6⟩
              obtain ⟨d0, d1, hz6, hb7⟩ := box2 hb6
              have hb8 := HBQ.out.trans (hb7.mono HBQ.out.size)
              have HB8 := Lib.hid hb8
              have HG8 := Lib.hid (blk_below HGQ.out hb7)
              have e1 := blk_cell (j := 1) (v := .slice (some ad2) g.ports.length c1) HG8.out rfl
              clear hb6 hb7 cG0 cG1 hx hy hcell
              rw [HPA.out]
              by_cases hneg : portOf (g.ports.getD a []) v < 0
              · have HE := Lib.hid (HBAD.out (by
                  rintro ⟨k, hk, hp, _⟩
                  rw [Int.toNat_natCast] at hp
                  rw [HPA.out] at hp
                  omega))
                generalize portOf (g.ports.getD a []) v = k at hneg hpb
                clear hb8
                go_wp2_with fail
                go_quiet (fail)
                go_wp2_with fail
                go_ret
                exact ⟨by rw [HE.out]; rfl, below_drewN HB8.out _⟩
              · obtain ⟨k, hk⟩ : ∃ k : Nat, portOf (g.ports.getD a []) v = k := ⟨_, (Int.toNat_of_nonneg (by omega)).symm⟩
                obtain ⟨hkl, hkt⟩ := port_some hk
                have HPK : Hid (portAt g.ports a v = k) := HPA.out.trans hk
                rw [hk]
                obtain ⟨ad7, A7, c7, hA7, hcell7, hl7, hC7⟩ := Kd.at_slice (HG.out.below hb8).ports a hal
                cases hA7
                have HPa : Hid (g.ports.getD a [] = g.ports[a]) := by unfold Hid; simp [List.getD_eq_getElem?_getD, hal]
                have HW : Hid (BackOK g.ports v ⟨(a : Int), lw⟩ ↔ ((g.ports.getD a [])[k]).wt = lw) := by
                  constructor
                  · rintro ⟨k', hk', hp', hw'⟩
                    simp only [Int.toNat_natCast] at hk' hp' hw'
                    rw [HPK.out] at hp'
                    obtain rfl : k = k' := by omega
                    exact hw'
                  · intro h
                    exact ⟨k, by simpa only [Int.toNat_natCast] using hkl, by simpa only [Int.toNat_natCast] using HPK.out, by simpa only [Int.toNat_natCast] using h⟩
                generalize hpa : g.ports.getD a [] = pa at hkl hkt HW HPa
                rw [← HPa.out] at hcell7 hl7 hC7
                have hpm7 := Kd.C_max hC7
                obtain ⟨ad8, hA8, hx8, hy8⟩ := at_link hC7 k hkl
                subst hA8
                clear hC7 hb8 hneg hpb hk hkt hx8 hpa
                generalize pa[k].wt = z at hy8 HW
                have b1 : (a : Int) < (g.ports.length : Int) := by omega
                have b2 : (k : Int) < (pa.length : Int) := by omega
                have b3 : (0 : Int) ≤ (a : Int) := by omega
                have b4 : (0 : Int) ≤ (k : Int) := by omega
                have b5 : decide ((k : Int) < 0) = false := decide_eq_false (by omega)
                by_cases hzw : z = lw
                · have t5 : (z != lw) = false := by simp [hzw]
                  have HE := Lib.hid (HTK.out (HW.out.2 hzw))
                  clear hzw
                  go_wp2_with fail
                  go_quiet (fail)
                  go_wp2_with fail
                  go_roundw
                  case rel => exact ⟨j + 1, by rw [HP.out]; omega, by go_num, HE.out, below_drewN HB8.out _, HG8.out⟩
                  case measure => simp only [intOf]; have := HP.out; rw [this]; omega
                · have t5 : (z != lw) = true := by simp [hzw]
                  have HE := Lib.hid (HBAD.out (fun h => hzw (HW.out.1 h)))
                  clear hzw
                  go_wp2_with fail
                  go_quiet (fail)
                  go_wp2_with fail
                  go_ret
                  exact ⟨by rw [HE.out]; rfl, below_drewN HB8.out _⟩
            · have HS : Hid (∀ u, u < v + 1 → ∀ l ∈ g.ports.getD u [], BackOK g.ports u l) := fun u hu l hl => by
                by_cases e : u = v
                · subst e; refine HBK.out l ?_
                  rw [HP.out] at hl ⊢
                  rw [List.take_of_length_le (by omega)]
                  exact hl
                · exact HBACK.out u (by omega) l hl
              go_wp2_with fail
              go_roundw
              case rel => exact ⟨v + 1, by omega, by go_num, HS.out, HBQ.out, HGQ.out⟩
              case measure => simp [intOf]; omega
        · have HE : Hid (g.valid = true) := ref_good ⟨h1, h2, H3.out⟩ HALL.out fun u hu => HBACK.out u (by omega)
          go_wp2_with fail
          go_ret
          exact ⟨by rw [HE.out]; rfl, HBZ.out⟩
theorem refvalid_calls (w : World) (A0 : Option Addr) (c0 : Nat) (A1 : Option Addr) (c1 : Nat) (g : Graph) (hg : IsGraph w A0 c0 A1 c1 g) :
    Calls Try.prog 75 #[.agg #[.slice A0 g.ids.length c0, .slice A1 g.ports.length c1]] w fun e w' => e = .returned (.bool g.valid) ∧ Below w.heap.size w w' := by
  by_cases h : 1 ≤ g.ports.length ∧ g.ports.length ≤ 24 ∧ g.ids.length = g.ports.length
  · exact refvalid_late w A0 c0 A1 c1 g hg h.1 h.2.1 h.2.2
  · have HV := Lib.hid (valid_no h)
    by_cases h1 : 1 ≤ g.ports.length ∧ g.ports.length ≤ 24
    · have h3 : ¬ g.ids.length = g.ports.length := fun e => h ⟨h1.1, h1.2, e⟩
      have h3b : ((g.ids.length : Int) != (g.ports.length : Int)) = true := by rw [bne_iff_ne]; omega
      have T1 : Hid (inB (g.ports.length : Int) 1 24 = true) := decide_eq_true ⟨by omega, by omega⟩
      clear h h3
      go_enter Try.func75, Try.ntmps75
      go_wp2_with fail
      refine (in_calls _ _ _ _).mono ?_
      rintro e w1 ⟨rfl, rfl⟩
      rw [T1.out]
      go_wp2_with fail
      go_ret
      exact ⟨by rw [HV.out]; rfl, (Below.refl _ _).alloc (Nat.le_refl _) _⟩
    · have T1 : Hid (inB (g.ports.length : Int) 1 24 = false) := decide_eq_false fun h => h1 ⟨by omega, by omega⟩
      clear h h1
      go_enter Try.func75, Try.ntmps75
      go_wp2_with fail
      refine (in_calls _ _ _ _).mono ?_
      rintro e w1 ⟨rfl, rfl⟩
      rw [T1.out]
      go_wp2_with fail
      go_ret
      exact ⟨by rw [HV.out]; rfl, (Below.refl _ _).alloc (Nat.le_refl _) _⟩
/-! ### Neighbours, Independent -/
end Go.Proofs.Ythapikakneikbaa
/-
  As Bridge, beside the contract of selfstabref01.Valid.
-/
namespace Go.Proofs.YthapikakneikbaaG
open Go.RowKit Go.Proofs.YthapikakneikbaaW.PrintWords Go.Proofs.YthapikakneikbaaW.PrintLast Go.Proofs.YthapikakneikbaaW.PrintMore
attribute [local go_sem] max2_int min2_int max_two min_two max_three min_three max_four min_four   -- for this text's walks alone
set_option linter.unusedVariables false
set_option linter.unusedSimpArgs false
def selfstabref01_Valid.f (l0_0 : List Int) (l0_1 : List (List (S60))) : Option (Bool) := some (toG l0_0 l0_1).valid
theorem selfstabref01_Valid.calls (A0_0 : Option Addr) (c0_0 : Nat) (l0_0 : List Int) (A0_1 : Option Addr) (c0_1 : Nat) (l0_1 : List (List (S60))) (r : Bool) (w : World) (hr0_0 : Kd.C (Kd.int .i64) w A0_0 l0_0.length l0_0) (hc0_0 : l0_0.length ≤ c0_0) (hr0_1 : Kd.C (Kd.slice 60 k60) w A0_1 l0_1.length l0_1) (hc0_1 : l0_1.length ≤ c0_1) (h : selfstabref01_Valid.f l0_0 l0_1 = some r) :
  Calls Try.prog 75 #[.agg #[.slice A0_0 l0_0.length c0_0, .slice A0_1 l0_1.length c0_1]] w fun e w' => e = .returned (.bool r) ∧ Below w.heap.size w w' := by
 obtain rfl : (toG l0_0 l0_1).valid = r := by simpa [selfstabref01_Valid.f] using h
 have hv := Go.Proofs.Ythapikakneikbaa.refvalid_calls w A0_0 c0_0 A0_1 c0_1 (toG l0_0 l0_1) (isGraph hr0_0 hc0_0 hr0_1 hc0_1)
 have e1 : (toG l0_0 l0_1).ports.length = l0_1.length := by simp [toG]
 rw [e1] at hv
 exact hv
end Go.Proofs.YthapikakneikbaaG
namespace Go.Proofs.YthapikakneikbaaG
open Go.RowKit Go.Proofs.YthapikakneikbaaW.PrintWords Go.Proofs.YthapikakneikbaaW.PrintLast Go.Proofs.YthapikakneikbaaW.PrintMore
attribute [local go_sem] max2_int min2_int max_two min_two max_three min_three max_four min_four   -- for this text's walks alone
set_option linter.unusedVariables false
set_option linter.unusedSimpArgs false
mutual
def selfstabref01_Distances.j0 : Nat → Int → Bool → List Int → List (List (S60)) → Option (List Int)
 | 0, _, _, _, _ => none
 | k + 1, x1, x22, x546000, x546001 => if x22 = true then (some ([] : List Int)) else (selfstabref01_Distances.l0 k x1 (x546001.length : Int) ([] : List Int) 0 x546000 x546001)
def selfstabref01_Distances.l0 : Nat → Int → Int → List Int → Int → List Int → List (List (S60)) → Option (List Int)
 | 0, _, _, _, _, _, _ => none
 | k + 1, x1, x5, x6, x7, x546000, x546001 => if x7 < x5 then (if x6.length < 17592186044416 then (selfstabref01_Distances.l0 k x1 x5 (x6 ++ [(-1)]) (wrap64 (x7 + 1)) x546000 x546001) else (none)) else (if 0 ≤ x1 then (if x1 < (x6.length : Int) then (selfstabref01_Distances.l1 k x5 (x6.set (x1 : Int).toNat 0) 1 x546000 x546001) else (none)) else (none))
def selfstabref01_Distances.l1 : Nat → Int → List Int → Int → List Int → List (List (S60)) → Option (List Int)
 | 0, _, _, _, _, _ => none
 | k + 1, x5, x6, x8, x546000, x546001 => if x8 < x5 then (selfstabref01_Distances.l2 k x5 x6 x8 0 x546000 x546001) else (some x6)
def selfstabref01_Distances.l2 : Nat → Int → List Int → Int → Int → List Int → List (List (S60)) → Option (List Int)
 | 0, _, _, _, _, _, _ => none
 | k + 1, x5, x6, x8, x9, x546000, x546001 => if x9 < x5 then (selfstabref01_Distances.l3 k x5 x6 x8 x9 0 x546000 x546001) else (selfstabref01_Distances.l1 k x5 x6 (wrap64 (x8 + 1)) x546000 x546001)
def selfstabref01_Distances.l3 : Nat → Int → List Int → Int → Int → Int → List Int → List (List (S60)) → Option (List Int)
 | 0, _, _, _, _, _, _, _ => none
 | k + 1, x5, x6, x8, x9, x10, x546000, x546001 => if 0 ≤ x9 then (if x9 < (x546001.length : Int) then (if x10 < ((rd_L2 x546001 x9).length : Int) then (if x9 < (x6.length : Int) then (selfstabref01_Distances.j5 k x5 x6 x8 x9 x10 (decide ((rd x6 x9) < 0)) x546000 x546001) else (none)) else (selfstabref01_Distances.j5 k x5 x6 x8 x9 x10 false x546000 x546001)) else (none)) else (none)
def selfstabref01_Distances.j5 : Nat → Int → List Int → Int → Int → Int → Bool → List Int → List (List (S60)) → Option (List Int)
 | 0, _, _, _, _, _, _, _, _ => none
 | k + 1, x5, x6, x8, x9, x10, x61, x546000, x546001 => if x61 = true then (if 0 ≤ x9 then (if x9 < (x546001.length : Int) then (if 0 ≤ x10 then (if x10 < ((rd_L2 x546001 x9).length : Int) then (if 0 ≤ ((rd_T60 (rd_L2 x546001 x9) x10).f0) then (if ((rd_T60 (rd_L2 x546001 x9) x10).f0) < (x6.length : Int) then (if (rd x6 ((rd_T60 (rd_L2 x546001 x9) x10).f0)) = (wrap64 (x8 - 1)) then (if x9 < (x6.length : Int) then (selfstabref01_Distances.l3 k x5 (x6.set (x9 : Int).toNat x8) x8 x9 (wrap64 (x10 + 1)) x546000 x546001) else (none)) else (selfstabref01_Distances.l3 k x5 x6 x8 x9 (wrap64 (x10 + 1)) x546000 x546001)) else (none)) else (none)) else (none)) else (none)) else (none)) else (none)) else (selfstabref01_Distances.l2 k x5 x6 x8 (wrap64 (x9 + 1)) x546000 x546001)
end
def selfstabref01_Distances.f (k : Nat) (l0_0 : List Int) (l0_1 : List (List (S60))) (a1 : Int) : Option (List Int) := (selfstabref01_Valid.f l0_0 l0_1).bind fun t546 => (if t546 = true then ((selfstabref01_In.f a1 0 (wrap64 ((l0_1.length : Int) - 1))).bind fun t547 => (selfstabref01_Distances.j0 k a1 (!t547) l0_0 l0_1)) else (selfstabref01_Distances.j0 k a1 true l0_0 l0_1))
theorem selfstabref01_Distances.mono_l : ∀ k, (∀ y0 y1 y2 y3, LeO (selfstabref01_Distances.j0 k y0 y1 y2 y3) (selfstabref01_Distances.j0 (k + 1) y0 y1 y2 y3)) ∧ (∀ y0 y1 y2 y3 y4 y5, LeO (selfstabref01_Distances.l0 k y0 y1 y2 y3 y4 y5) (selfstabref01_Distances.l0 (k + 1) y0 y1 y2 y3 y4 y5)) ∧ (∀ y0 y1 y2 y3 y4, LeO (selfstabref01_Distances.l1 k y0 y1 y2 y3 y4) (selfstabref01_Distances.l1 (k + 1) y0 y1 y2 y3 y4)) ∧ (∀ y0 y1 y2 y3 y4 y5, LeO (selfstabref01_Distances.l2 k y0 y1 y2 y3 y4 y5) (selfstabref01_Distances.l2 (k + 1) y0 y1 y2 y3 y4 y5)) ∧ (∀ y0 y1 y2 y3 y4 y5 y6, LeO (selfstabref01_Distances.l3 k y0 y1 y2 y3 y4 y5 y6) (selfstabref01_Distances.l3 (k + 1) y0 y1 y2 y3 y4 y5 y6)) ∧ (∀ y0 y1 y2 y3 y4 y5 y6 y7, LeO (selfstabref01_Distances.j5 k y0 y1 y2 y3 y4 y5 y6 y7) (selfstabref01_Distances.j5 (k + 1) y0 y1 y2 y3 y4 y5 y6 y7))
 | 0 => ⟨fun _ _ _ _ r h => by simp [selfstabref01_Distances.j0] at h, fun _ _ _ _ _ _ r h => by simp [selfstabref01_Distances.l0] at h, fun _ _ _ _ _ r h => by simp [selfstabref01_Distances.l1] at h, fun _ _ _ _ _ _ r h => by simp [selfstabref01_Distances.l2] at h, fun _ _ _ _ _ _ _ r h => by simp [selfstabref01_Distances.l3] at h, fun _ _ _ _ _ _ _ _ r h => by simp [selfstabref01_Distances.j5] at h⟩
 | k + 1 => by
  obtain ⟨ih0, ih1, ih2, ih3, ih4, ih5⟩ := selfstabref01_Distances.mono_l k
  refine ⟨?_, ?_, ?_, ?_, ?_, ?_⟩
  ·
   intro y0 y1 y2 y3
   unfold selfstabref01_Distances.j0
   repeat' first
   | (with_reducible exact ih0 _ _ _ _)
   | (with_reducible exact ih1 _ _ _ _ _ _)
   | (with_reducible exact ih2 _ _ _ _ _)
   | (with_reducible exact ih3 _ _ _ _ _ _)
   | (with_reducible exact ih4 _ _ _ _ _ _ _)
   | (with_reducible exact ih5 _ _ _ _ _ _ _ _)
   | (with_reducible exact LeO.refl _)
   | (with_reducible exact LeO.none _)
   | (with_reducible refine LeO.ite ?_ ?_)
   | (with_reducible refine LeO.bind ?_ (fun _ => ?_))
   | exact ih0 _ _ _ _
   | exact ih1 _ _ _ _ _ _
   | exact ih2 _ _ _ _ _
   | exact ih3 _ _ _ _ _ _
   | exact ih4 _ _ _ _ _ _ _
   | exact ih5 _ _ _ _ _ _ _ _
   | exact LeO.none _
   | refine LeO.ite ?_ ?_
   | refine LeO.bind ?_ (fun _ => ?_)
  ·
   intro y0 y1 y2 y3 y4 y5
   unfold selfstabref01_Distances.l0
   repeat' first
   | (with_reducible exact ih0 _ _ _ _)
   | (with_reducible exact ih1 _ _ _ _ _ _)
   | (with_reducible exact ih2 _ _ _ _ _)
   | (with_reducible exact ih3 _ _ _ _ _ _)
   | (with_reducible exact ih4 _ _ _ _ _ _ _)
   | (with_reducible exact ih5 _ _ _ _ _ _ _ _)
   | (with_reducible exact LeO.refl _)
   | (with_reducible exact LeO.none _)
   | (with_reducible refine LeO.ite ?_ ?_)
   | (with_reducible refine LeO.bind ?_ (fun _ => ?_))
   | exact ih0 _ _ _ _
   | exact ih1 _ _ _ _ _ _
   | exact ih2 _ _ _ _ _
   | exact ih3 _ _ _ _ _ _
   | exact ih4 _ _ _ _ _ _ _
   | exact ih5 _ _ _ _ _ _ _ _
   | exact LeO.none _
   | refine LeO.ite ?_ ?_
   | refine LeO.bind ?_ (fun _ => ?_)
  ·
   intro y0 y1 y2 y3 y4
   unfold selfstabref01_Distances.l1
   repeat' first
   | (with_reducible exact ih0 _ _ _ _)
   | (with_reducible exact ih1 _ _ _ _ _ _)
   | (with_reducible exact ih2 _ _ _ _ _)
   | (with_reducible exact ih3 _ _ _ _ _ _)
   | (with_reducible exact ih4 _ _ _ _ _ _ _)
   | (with_reducible exact ih5 _ _ _ _ _ _ _ _)
   | (with_reducible exact LeO.refl _)
   | (with_reducible exact LeO.none _)
   | (with_reducible refine LeO.ite ?_ ?_)
   | (with_reducible refine LeO.bind ?_ (fun _ => ?_))
   | exact ih0 _ _ _ _
   | exact ih1 _ _ _ _ _ _
   | exact ih2 _ _ _ _ _
   | exact ih3 _ _ _ _ _ _
   | exact ih4 _ _ _ _ _ _ _
   | exact ih5 _ _ _ _ _ _ _ _
   | exact LeO.none _
   | refine LeO.ite ?_ ?_
   | refine LeO.bind ?_ (fun _ => ?_)
  ·
   intro y0 y1 y2 y3 y4 y5
   unfold selfstabref01_Distances.l2
   repeat' first
   | (with_reducible exact ih0 _ _ _ _)
   | (with_reducible exact ih1 _ _ _ _ _ _)
   | (with_reducible exact ih2 _ _ _ _ _)
   | (with_reducible exact ih3 _ _ _ _ _ _)
   | (with_reducible exact ih4 _ _ _ _ _ _ _)
   | (with_reducible exact ih5 _ _ _ _ _ _ _ _)
   | (with_reducible exact LeO.refl _)
   | (with_reducible exact LeO.none _)
   | (with_reducible refine LeO.ite ?_ ?_)
   | (with_reducible refine LeO.bind ?_ (fun _ => ?_))
   | exact ih0 _ _ _ _
   | exact ih1 _ _ _ _ _ _
   | exact ih2 _ _ _ _ _
   | exact ih3 _ _ _ _ _ _
   | exact ih4 _ _ _ _ _ _ _
   | exact ih5 _ _ _ _ _ _ _ _
   | exact LeO.none _
   | refine LeO.ite ?_ ?_
   | refine LeO.bind ?_ (fun _ => ?_)
  ·
   intro y0 y1 y2 y3 y4 y5 y6
   unfold selfstabref01_Distances.l3
   repeat' first
   | (with_reducible exact ih0 _ _ _ _)
   | (with_reducible exact ih1 _ _ _ _ _ _)
   | (with_reducible exact ih2 _ _ _ _ _)
   | (with_reducible exact ih3 _ _ _ _ _ _)
   | (with_reducible exact ih4 _ _ _ _ _ _ _)
   | (with_reducible exact ih5 _ _ _ _ _ _ _ _)
   | (with_reducible exact LeO.refl _)
   | (with_reducible exact LeO.none _)
   | (with_reducible refine LeO.ite ?_ ?_)
   | (with_reducible refine LeO.bind ?_ (fun _ => ?_))
   | exact ih0 _ _ _ _
   | exact ih1 _ _ _ _ _ _
   | exact ih2 _ _ _ _ _
   | exact ih3 _ _ _ _ _ _
   | exact ih4 _ _ _ _ _ _ _
   | exact ih5 _ _ _ _ _ _ _ _
   | exact LeO.none _
   | refine LeO.ite ?_ ?_
   | refine LeO.bind ?_ (fun _ => ?_)
  ·
   intro y0 y1 y2 y3 y4 y5 y6 y7
   unfold selfstabref01_Distances.j5
   repeat' first
   | (with_reducible exact ih0 _ _ _ _)
   | (with_reducible exact ih1 _ _ _ _ _ _)
   | (with_reducible exact ih2 _ _ _ _ _)
   | (with_reducible exact ih3 _ _ _ _ _ _)
   | (with_reducible exact ih4 _ _ _ _ _ _ _)
   | (with_reducible exact ih5 _ _ _ _ _ _ _ _)
   | (with_reducible exact LeO.refl _)
   | (with_reducible exact LeO.none _)
   | (with_reducible refine LeO.ite ?_ ?_)
   | (with_reducible refine LeO.bind ?_ (fun _ => ?_))
   | exact ih0 _ _ _ _
   | exact ih1 _ _ _ _ _ _
   | exact ih2 _ _ _ _ _
   | exact ih3 _ _ _ _ _ _
   | exact ih4 _ _ _ _ _ _ _
   | exact ih5 _ _ _ _ _ _ _ _
   | exact LeO.none _
   | refine LeO.ite ?_ ?_
   | refine LeO.bind ?_ (fun _ => ?_)
theorem selfstabref01_Distances.mono : ∀ a0 a1 a2 k, LeO (selfstabref01_Distances.f k a0 a1 a2) (selfstabref01_Distances.f (k + 1) a0 a1 a2) := by
 intro a0 a1 a2 k
 obtain ⟨ih0, ih1, ih2, ih3, ih4, ih5⟩ := selfstabref01_Distances.mono_l k
 unfold selfstabref01_Distances.f
 repeat' first
   | (with_reducible exact ih0 _ _ _ _)
   | (with_reducible exact ih1 _ _ _ _ _ _)
   | (with_reducible exact ih2 _ _ _ _ _)
   | (with_reducible exact ih3 _ _ _ _ _ _)
   | (with_reducible exact ih4 _ _ _ _ _ _ _)
   | (with_reducible exact ih5 _ _ _ _ _ _ _ _)
   | (with_reducible exact LeO.refl _)
   | (with_reducible exact LeO.none _)
   | (with_reducible refine LeO.ite ?_ ?_)
   | (with_reducible refine LeO.bind ?_ (fun _ => ?_))
   | exact ih0 _ _ _ _
   | exact ih1 _ _ _ _ _ _
   | exact ih2 _ _ _ _ _
   | exact ih3 _ _ _ _ _ _
   | exact ih4 _ _ _ _ _ _ _
   | exact ih5 _ _ _ _ _ _ _ _
   | exact LeO.none _
   | refine LeO.ite ?_ ?_
   | refine LeO.bind ?_ (fun _ => ?_)
set_option maxHeartbeats 8000000 in
set_option maxRecDepth 100000 in
theorem selfstabref01_Distances.calls (k : Nat) (A0_0 : Option Addr) (c0_0 : Nat) (l0_0 : List Int) (A0_1 : Option Addr) (c0_1 : Nat) (l0_1 : List (List (S60))) (a1 : Int) (r : List Int) (w : World) (hr0_0 : Kd.C (Kd.int .i64) w A0_0 l0_0.length l0_0) (hc0_0 : l0_0.length ≤ c0_0) (hr0_1 : Kd.C (Kd.slice 60 k60) w A0_1 l0_1.length l0_1) (hc0_1 : l0_1.length ≤ c0_1) (h : selfstabref01_Distances.f k l0_0 l0_1 a1 = some r) :
  Calls Try.prog 123 #[.agg #[.slice A0_0 l0_0.length c0_0, .slice A0_1 l0_1.length c0_1], .int .i64 a1] w fun e w' => ∃ v0_ : Value, e = .returned (v0_) ∧ Kd.R (Kd.int .i64) 3 w' w.heap.size (fun _ => True) v0_ r ∧ Below w.heap.size w w' := by
 have hu27 := Try.underlying27
 have HR0_0 := Aside0.mk hr0_0
 have HC0_0 := Aside0.mk hc0_0
 clear hr0_0 hc0_0
 have HR0_1 := Aside0.mk hr0_1
 have HC0_1 := Aside0.mk hc0_1
 clear hr0_1 hc0_1
 have HB := Aside0.mk (Below.refl w.heap.size w)
 have H : ((selfstabref01_Valid.f l0_0 l0_1).bind fun t546 => (if t546 = true then ((selfstabref01_In.f a1 0 (wrap64 ((l0_1.length : Int) - 1))).bind fun t547 => (selfstabref01_Distances.j0 k a1 (!t547) l0_0 l0_1)) else (selfstabref01_Distances.j0 k a1 true l0_0 l0_1))) = some r := h
 clear h
 have HC3 := Aside0.mk H
 clear H
 go_enter Try.func123, Try.ntmps123
 go_upto_region 1 with (first | ((with_reducible refine gate_dst (N := 2) rfl ?_); (try (refine gate_guard (by rfl) ?_; dsimp only)); refine box_event ?hg (N := 2) ?hd (cs := #[.slice A0_0 l0_0.length c0_0, .slice A0_1 l0_1.length c0_1]) (t := 27) ?hr ?_; (case hd => rfl); (case hg => rfl); (case hr => first | (go_simp; done) | (go_simp; rfl)); intro gb545 hg w4 hbox hb; have n0_ := Aside0.mk (below_step (by repeat (first | (with_reducible first | exact HB.out | apply below_alloc | apply pw_below_drewN | apply below_drew1) | exact HB.out)) hb); have n1_ := Aside0.mk (hbox); have n2_ := Aside0.mk ((by rw [hg]; exact (below_size (by repeat (first | (with_reducible first | exact HB.out | apply below_alloc | apply pw_below_drewN | apply below_drew1) | exact HB.out))) : w.heap.size ≤ gb545)); have n3_ := Aside0.mk ((by rw [hg]; exact (below_size (by repeat (first | (with_reducible first | exact HB.out | apply below_alloc | apply pw_below_drewN | apply below_drew1) | exact HB.out))) : w.heap.size ≤ gb545)); clear HB; have HB := n0_; have BK545 := n1_; have GW545 := n2_; have GE545 := n3_; clear n0_ n1_ n2_ n3_; clear hb hbox hg))
 (try simp only [Act.put, List.setIfInBounds_toArray, List.set_cons_zero, List.set_cons_succ])
 go_cut [22] (fun v22 wc => ∃ (kq : Nat) (x22_2 : Bool), v22 = .bool x22_2 ∧ Aside0 (selfstabref01_Distances.j0 kq a1 x22_2 l0_0 l0_1 = some r) ∧ Aside0 (kq ≤ k) ∧ Aside0 (wc.heap[gb545]? = some (.cells #[(.slice A0_0 l0_0.length c0_0), (.slice A0_1 l0_1.length c0_1)] 27 (0, 0))) ∧ Aside0 (Below w.heap.size w wc))
 case first =>
  have H := HC3.out
  clear HC3
  replace H := Option.bind_eq_some_iff.mp H
  obtain ⟨t546, A50, H⟩ := H
  replace H : (if t546 = true then ((selfstabref01_In.f a1 0 (wrap64 ((l0_1.length : Int) - 1))).bind fun t547 => (selfstabref01_Distances.j0 k a1 (!t547) l0_0 l0_1)) else (selfstabref01_Distances.j0 k a1 true l0_0 l0_1)) = some r := H
  have A5 := Aside0.mk A50
  clear A50
  by_cases c6 : t546 = true
  ·
   subst c6
   have H1 : ((selfstabref01_In.f a1 0 (wrap64 ((l0_1.length : Int) - 1))).bind fun t547 => (selfstabref01_Distances.j0 k a1 (!t547) l0_0 l0_1)) = some r := by rw [if_pos rfl] at H; exact H
   clear H
   have H := H1
   clear H1
   replace H := Option.bind_eq_some_iff.mp H
   obtain ⟨t547, A70, H⟩ := H
   replace H : (selfstabref01_Distances.j0 k a1 (!t547) l0_0 l0_1) = some r := H
   have A7 := Aside0.mk A70
   clear A70
   have H' := Aside0.mk H
   clear H
   have hcz8_0 : w4.cell? ⟨gb545, 0, none⟩ = some (.slice A0_0 l0_0.length c0_0) := (blk_cell BK545.out 0).trans rfl
   have hcz8_1 : w4.cell? ⟨gb545, 1, none⟩ = some (.slice A0_1 l0_1.length c0_1) := (blk_cell BK545.out 1).trans rfl
   have hfz8_0 := blk_frozen BK545.out 0
   have hfz8_1 := blk_frozen BK545.out 1
   go_wp2_with (first | ((with_reducible refine gate_callee (f := 75) rfl ?_); refine goesL_ (some 12) rfl rfl Try.func75 (by kernel_rfl) rfl #[.agg #[.slice A0_0 l0_0.length c0_0, .slice A0_1 l0_1.length c0_1]] rfl (by (try simp only [List.map_toArray, List.map_cons, List.map_nil]); first | done | rfl | (simp only [List.length_drop, List.length_take]; rfl)) ?_; (with_reducible refine (selfstabref01_Valid.calls _ _ l0_0 _ _ l0_1 true _ ?side1 ?side2 ?side3 ?side4 A5.out).mono ?_); (case side1 => repeat (first | exact (Kd.C_below HR0_0.out HB.out) | (with_reducible refine Kd.C_alloc ?_ _) | (with_reducible refine Kd.C_drewN ?_ _) | (with_reducible refine Kd.C_drew ?_))); (case side2 => exact HC0_0.out); (case side3 => repeat (first | exact (Kd.C_below HR0_1.out HB.out) | (with_reducible refine Kd.C_alloc ?_ _) | (with_reducible refine Kd.C_drewN ?_ _) | (with_reducible refine Kd.C_drew ?_))); (case side4 => exact HC0_1.out); rintro e w9 ⟨rfl, hb⟩; refine ⟨_, rfl, ?_⟩; have n0_ := Aside0.mk (blk_below (g := gb545) (o := .cells #[.slice A0_0 l0_0.length c0_0, .slice A0_1 l0_1.length c0_1] 27 (0, 0)) (by (with_reducible repeat (first | refine blk_drewN ?_ _ | refine blk_drew ?_ | refine blk_alloc ?_ _)); exact BK545.out) hb); have n1_ := Aside0.mk (below_step (by repeat (first | (with_reducible first | exact HB.out | apply below_alloc | apply pw_below_drewN | apply below_drew1 | refine below_set ?_ GE545.out) | exact HB.out)) hb); clear BK545; clear HB; have BK545 := n0_; have HB := n1_; clear n0_ n1_; (try clear hb); (try clear hb2); (try clear hk); (try clear hi); have hcz10_0 : w9.cell? ⟨gb545, 0, none⟩ = some (.slice A0_0 l0_0.length c0_0) := (blk_cell BK545.out 0).trans rfl; have hcz10_1 : w9.cell? ⟨gb545, 1, none⟩ = some (.slice A0_1 l0_1.length c0_1) := (blk_cell BK545.out 1).trans rfl; have hfz10_0 := blk_frozen BK545.out 0; have hfz10_1 := blk_frozen BK545.out 1) | (go_at_call 116; (with_reducible refine (selfstabref01_In.calls a1 0 (wrap64 ((l0_1.length : Int) - 1)) t547 _ A7.out).mono ?_); rintro e w' ⟨rfl, ⟨nd, rfl⟩⟩))
   go_meet
   case rel => exact ⟨_, (!t547), (by first | rfl | (simp; done) | (simp [*]; done)), H', ⟨by first | omega | exact Nat.le_refl _⟩, ⟨by (with_reducible repeat (first | refine blk_drewN ?_ _ | refine blk_drew ?_ | refine blk_alloc ?_ _)); exact BK545.out⟩, ⟨by repeat (first | (with_reducible first | exact HB.out | apply below_alloc | apply pw_below_drewN | apply below_drew1 | refine below_set ?_ GE545.out) | exact HB.out)⟩⟩
  ·
   replace c6 := Bool.eq_false_iff.mpr c6
   subst c6
   have H1 : (selfstabref01_Distances.j0 k a1 true l0_0 l0_1) = some r := by rw [if_neg (show ¬ (false = true) by decide)] at H; exact H
   clear H
   have H := H1
   clear H1
   have H' := Aside0.mk H
   clear H
   have hcz11_0 : w4.cell? ⟨gb545, 0, none⟩ = some (.slice A0_0 l0_0.length c0_0) := (blk_cell BK545.out 0).trans rfl
   have hcz11_1 : w4.cell? ⟨gb545, 1, none⟩ = some (.slice A0_1 l0_1.length c0_1) := (blk_cell BK545.out 1).trans rfl
   have hfz11_0 := blk_frozen BK545.out 0
   have hfz11_1 := blk_frozen BK545.out 1
   go_wp2_with (first | ((with_reducible refine gate_callee (f := 75) rfl ?_); refine goesL_ (some 12) rfl rfl Try.func75 (by kernel_rfl) rfl #[.agg #[.slice A0_0 l0_0.length c0_0, .slice A0_1 l0_1.length c0_1]] rfl (by (try simp only [List.map_toArray, List.map_cons, List.map_nil]); first | done | rfl | (simp only [List.length_drop, List.length_take]; rfl)) ?_; (with_reducible refine (selfstabref01_Valid.calls _ _ l0_0 _ _ l0_1 false _ ?side1 ?side2 ?side3 ?side4 A5.out).mono ?_); (case side1 => repeat (first | exact (Kd.C_below HR0_0.out HB.out) | (with_reducible refine Kd.C_alloc ?_ _) | (with_reducible refine Kd.C_drewN ?_ _) | (with_reducible refine Kd.C_drew ?_))); (case side2 => exact HC0_0.out); (case side3 => repeat (first | exact (Kd.C_below HR0_1.out HB.out) | (with_reducible refine Kd.C_alloc ?_ _) | (with_reducible refine Kd.C_drewN ?_ _) | (with_reducible refine Kd.C_drew ?_))); (case side4 => exact HC0_1.out); rintro e w12 ⟨rfl, hb⟩; refine ⟨_, rfl, ?_⟩; have n0_ := Aside0.mk (blk_below (g := gb545) (o := .cells #[.slice A0_0 l0_0.length c0_0, .slice A0_1 l0_1.length c0_1] 27 (0, 0)) (by (with_reducible repeat (first | refine blk_drewN ?_ _ | refine blk_drew ?_ | refine blk_alloc ?_ _)); exact BK545.out) hb); have n1_ := Aside0.mk (below_step (by repeat (first | (with_reducible first | exact HB.out | apply below_alloc | apply pw_below_drewN | apply below_drew1 | refine below_set ?_ GE545.out) | exact HB.out)) hb); clear BK545; clear HB; have BK545 := n0_; have HB := n1_; clear n0_ n1_; (try clear hb); (try clear hb2); (try clear hk); (try clear hi)))
   go_meet
   case rel => exact ⟨_, (true), (by first | rfl | (simp; done) | (simp [*]; done)), H', ⟨by first | omega | exact Nat.le_refl _⟩, ⟨by (with_reducible repeat (first | refine blk_drewN ?_ _ | refine blk_drew ?_ | refine blk_alloc ?_ _)); exact BK545.out⟩, ⟨by repeat (first | (with_reducible first | exact HB.out | apply below_alloc | apply pw_below_drewN | apply below_drew1 | refine below_set ?_ GE545.out) | exact HB.out)⟩⟩
 case rest =>
  clear HC3
  try clear c1
  try clear p2
  try clear c6
  try clear p6
  try clear c7
  try clear c12
  try clear hcz10_0
  try clear hcz10_1
  try clear hcz11_0
  try clear hcz11_1
  try clear hcz8_0
  try clear hcz8_1
  try clear hfz10_0
  try clear hfz10_1
  try clear hfz11_0
  try clear hfz11_1
  try clear hfz8_0
  try clear hfz8_1
  obtain ⟨kq, x22_2, rfl, HA, HJ2, BK545, HB⟩ := hcut
  cases kq with
  | zero => exact absurd HA.out (by simp [selfstabref01_Distances.j0])
  | succ kj2 =>
   have H := HA.out
   clear HA
   simp only [selfstabref01_Distances.j0] at H
   by_cases c13 : x22_2 = true
   ·
    subst c13
    have H1 : (some ([] : List Int)) = some r := by rw [if_pos rfl] at H; exact H
    clear H
    have H := H1
    clear H1
    obtain rfl := Option.some.inj H
    go_wp2
    go_ret
    exact ⟨_, by first | rfl | (simp [errW_none, errW_some] <;> rfl) | (simp [*, errW_none, errW_some] <;> rfl), by first | exact Kd.R_nil _ _ _ _ _ | exact Kd.N_nil _ _ _ _ _ | exact Kd.V_nil _ _ _ _ _ | exact Kd.Q_nil _ _ _ _ _ | exact Kd.S_nil _ _ _ _ _, by repeat (first | (with_reducible first | exact HB.out | apply below_alloc | apply pw_below_drewN | apply below_drew1 | refine below_set ?_ GE545.out) | exact HB.out)⟩
   ·
    replace c13 := Bool.eq_false_iff.mpr c13
    subst c13
    have H1 : (selfstabref01_Distances.l0 kj2 a1 (l0_1.length : Int) ([] : List Int) 0 l0_0 l0_1) = some r := by rw [if_neg (show ¬ (false = true) by decide)] at H; exact H
    clear H
    have H := H1
    clear H1
    have H' := Aside0.mk H
    clear H
    have hcz14_0 : wc.cell? ⟨gb545, 0, none⟩ = some (.slice A0_0 l0_0.length c0_0) := (blk_cell BK545.out 0).trans rfl
    have hcz14_1 : wc.cell? ⟨gb545, 1, none⟩ = some (.slice A0_1 l0_1.length c0_1) := (blk_cell BK545.out 1).trans rfl
    have hfz14_0 := blk_frozen BK545.out 0
    have hfz14_1 := blk_frozen BK545.out 1
    go_wp2
    go_loopg [6, 7] kj2 (fun kq v6 v7 w' => ∃ (x6_2 : List Int) (x7_2 : Int), v7 = .int .i64 x7_2 ∧ Aside0 (selfstabref01_Distances.l0 kq a1 (l0_1.length : Int) x6_2 x7_2 l0_0 l0_1 = some r) ∧ Aside0 (kq ≤ kj2) ∧ Aside0 (Kd.R (Kd.int .i64) 3 w' w.heap.size (fun _ => True) v6 x6_2) ∧ Aside0 (w'.heap[gb545]? = some (.cells #[(.slice A0_0 l0_0.length c0_0), (.slice A0_1 l0_1.length c0_1)] 27 (0, 0))) ∧ Aside0 (Below w.heap.size w w'))
    case atStart => exact ⟨(([] : List Int)), (0), (by first | rfl | (simp; done) | (simp [*]; done)), H', ⟨Nat.le_refl _⟩, ⟨by first | exact Kd.R_nil _ _ _ _ _ | exact Kd.N_nil _ _ _ _ _ | exact Kd.V_nil _ _ _ _ _ | exact Kd.Q_nil _ _ _ _ _ | exact Kd.S_nil _ _ _ _ _⟩, ⟨by (with_reducible repeat (first | refine blk_drewN ?_ _ | refine blk_drew ?_ | refine blk_alloc ?_ _)); exact BK545.out⟩, ⟨by repeat (first | (with_reducible first | exact HB.out | apply below_alloc | apply pw_below_drewN | apply below_drew1 | refine below_set ?_ GE545.out) | exact HB.out)⟩⟩
    case round =>
     clear H'
     try clear c1
     try clear p2
     try clear c6
     try clear p6
     try clear c7
     try clear c12
     try clear c13
     try clear hcz10_0
     try clear hcz10_1
     try clear hcz11_0
     try clear hcz11_1
     try clear hcz14_0
     try clear hcz14_1
     try clear hcz8_0
     try clear hcz8_1
     try clear hfz10_0
     try clear hfz10_1
     try clear hfz11_0
     try clear hfz11_1
     try clear hfz14_0
     try clear hfz14_1
     try clear hfz8_0
     try clear hfz8_1
     try clear p2
     try clear p6
     obtain ⟨x6_2, x7_2, rfl, HA, HK2, HO_6, BK545, HB⟩ := hrel
     cases gk with
     | zero => exact absurd HA.out (by simp [selfstabref01_Distances.l0])
     | succ k2 =>
      have H := HA.out
      clear HA
      simp only [selfstabref01_Distances.l0] at H
      by_cases c15 : x7_2 < (l0_1.length : Int)
      ·
       rw [if_pos c15] at H
       have c15b0 : decide (x7_2 < (l0_1.length : Int)) = true := decide_eq_true c15
       clear c15
       by_cases c16 : x6_2.length < 17592186044416
       ·
        rw [if_pos c16] at H
        have LMc16 := Aside0.mk c16
        clear c16
        obtain ⟨y548, hy548⟩ : ∃ y_ : List Int, y_ = (x6_2 ++ [(-1)]) := ⟨_, rfl⟩
        replace H : (selfstabref01_Distances.l0 k2 a1 (l0_1.length : Int) y548 (wrap64 (x7_2 + 1)) l0_0 l0_1) = some r := by first | (rw [hy548]; with_reducible exact H) | (have H2_ := (Option.bind_some _ _).symm.trans H; rw [hy548]; with_reducible exact H2_) | (have H2_ := (Option.bind_some _ _).symm.trans H; with_reducible exact H2_) | with_reducible exact H | (rw [hy548]; exact H) | exact H
        have Ny548 := Aside0.mk hy548
        clear hy548
        have H' := Aside0.mk H
        clear H
        go_wp2_with (first | ((with_reducible refine gate_builtin (b := .append) (xs := #[.tmp 31, .tmp 32]) rfl ?_); (try (refine gate_guard (by rfl) ?_; dsimp only)); at_builtin; refine Kd.R_append (Kd.int .i64) (w0 := w) w.heap.size rfl (.tmp 31) (.tmp 32) 22 3 (.int .i64 0) 8 rfl Try.underlying22 info3 rfl (by decide) (by omega) u6 x6_2 (-1) [.int .i64 (-1)] (fun _ => True) (fun _ => False) rfl rfl ?aP (fun _ hk => hk.elim) ?aF ?aO ?aB ?aS ?aL ?_; (case aP => exact rfl); (case aB => exact (by repeat (first | (with_reducible first | exact HB.out | apply below_alloc | apply pw_below_drewN | apply below_drew1 | refine below_set ?_ GE545.out) | exact HB.out))); (case aF => exact (fun _ _ => trivial)); (case aO => exact (by (with_reducible repeat (first | apply Kd.R_alloc | apply Kd.R_drewN | apply Kd.R_drew)); exact HO_6.out)); (case aS => exact (below_size (by repeat (first | (with_reducible first | exact HB.out | apply below_alloc | apply pw_below_drewN | apply below_drew1 | refine below_set ?_ GE545.out) | exact HB.out)))); (case aL => have := LMc16.out; omega); intro v549 w17 ho hb hg hat; rw [← Ny548.out] at ho; have n0_ := Aside0.mk (blk_grown (g := gb545) (o := .cells #[.slice A0_0 l0_0.length c0_0, .slice A0_1 l0_1.length c0_1] 27 (0, 0)) (by (with_reducible repeat (first | refine blk_drewN ?_ _ | refine blk_drew ?_ | refine blk_alloc ?_ _)); exact BK545.out) hg (Kd.R_ne HO_6.out BK545.out (by decide))); have n1_ := Aside0.mk (hb); have n2_ := Aside0.mk (ho); clear BK545; clear HB; clear HO_6; have BK545 := n0_; have HB := n1_; have HO550 := n2_; clear n0_ n1_ n2_; clear ho hb hg hat))
        go_roundg k2
        case measure => have := HJ2.out; have := HK2.out; omega
        case rel => exact ⟨(y548), (wrap64 (x7_2 + 1)), (by first | rfl | (simp; done) | (simp [*]; done)), H', ⟨by have := HJ2.out; have := HK2.out; omega⟩, ⟨by (with_reducible repeat (first | apply Kd.R_alloc | apply Kd.R_drewN | apply Kd.R_drew)); exact HO550.out⟩, ⟨by (with_reducible repeat (first | refine blk_drewN ?_ _ | refine blk_drew ?_ | refine blk_alloc ?_ _)); exact BK545.out⟩, ⟨by repeat (first | (with_reducible first | exact HB.out | apply below_alloc | apply pw_below_drewN | apply below_drew1 | refine below_set ?_ GE545.out) | exact HB.out)⟩⟩
       ·
        rw [if_neg c16] at H
        exact absurd H (by simp)
      ·
       rw [if_neg c15] at H
       have c15b0 : decide (x7_2 < (l0_1.length : Int)) = false := decide_eq_false c15
       clear c15
       by_cases c18 : 0 ≤ a1
       ·
        rw [if_pos c18] at H
        have c18b0 : decide (0 ≤ a1) = true := decide_eq_true c18
        clear c18
        by_cases c19 : a1 < (x6_2.length : Int)
        ·
         rw [if_pos c19] at H
         have c19b0 : decide (a1 < (x6_2.length : Int)) = true := decide_eq_true c19
         clear c19
         obtain ⟨y551, hy551⟩ : ∃ y_ : List Int, y_ = (x6_2.set (a1 : Int).toNat 0) := ⟨_, rfl⟩
         replace H : (selfstabref01_Distances.l1 k2 (l0_1.length : Int) y551 1 l0_0 l0_1) = some r := by first | (rw [hy551]; with_reducible exact H) | (have H2_ := (Option.bind_some _ _).symm.trans H; rw [hy551]; with_reducible exact H2_) | (have H2_ := (Option.bind_some _ _).symm.trans H; with_reducible exact H2_) | with_reducible exact H | (rw [hy551]; exact H) | exact H
         have Ny551 := Aside0.mk hy551
         clear hy551
         have H' := Aside0.mk H
         clear H
         have p20 : 0 ≤ (a1 : Int) := of_decide_eq_true (by first | (with_reducible assumption) | assumption)
         have q20 : (a1 : Int) < ((x6_2.length : Int) : Int) := of_decide_eq_true (by first | (with_reducible assumption) | assumption)
         obtain ⟨go20, co20, eo20, gb20, gl20, cl20, HG20⟩ := Kd.R_form HO_6.out (by omega)
         (first | cases eo20 | (injection eo20 with ea_ en_ ec_; (first | subst ea_ | (injection ea_ with ea_; subst ea_)); subst ec_; clear en_))
         have GB20 := Aside0.mk gb20
         have GG20 := Aside0.mk HG20
         clear gb20 gl20 HG20
         obtain ⟨hx20_0, hf20_0⟩ := Kd.R_celln 0 HO_6.out (a1 : Int) p20 q20
         replace p20 := eq_true p20
         replace q20 := eq_true q20
         have HP21 := Kd.R_putg HO_6.out (a1 : Int) 0
         go_wp2_with (first | ((with_reducible refine gate_store (t := 3) (p := 36) rfl ?_); refine store_event (t := 3) (p := 36) (v := ?vo_w22) (w1 := (wr.setCell ⟨go20, (a1 : Int).toNat, none⟩ (.int .i64 0))) ?hg ?ho ?hn ?hr ?_; (case ho => rfl); (case hg => rfl); (case hn => rfl); (case hr => first | (go_simp; done) | (go_simp; rfl)); intro w22 hw; have hg : wr.grownBy w22 (some go20) := (by rw [hw]; exact HP21.2); have hp_ : Kd.R (Kd.int .i64) 3 w22 w.heap.size (fun _ => True) (.slice (some ⟨go20, 0, none⟩) x6_2.length co20) y551 := (by rw [hw, Ny551.out]; exact HP21.1); clear HP21; have n0_ := Aside0.mk (hp_); have n1_ := Aside0.mk (blk_grown (g := gb545) (o := .cells #[.slice A0_0 l0_0.length c0_0, .slice A0_1 l0_1.length c0_1] 27 (0, 0)) (by (with_reducible repeat (first | refine blk_drewN ?_ _ | refine blk_drew ?_ | refine blk_alloc ?_ _)); exact BK545.out) hg (Kd.R_ne HO_6.out BK545.out (by decide))); have n2_ := Aside0.mk ((by rw [hw]; exact below_set (HB.out) GB20.out : Below w.heap.size w w22)); clear HO_6; clear BK545; clear HB; have HO_6 := n0_; have BK545 := n1_; have HB := n2_; clear n0_ n1_ n2_; clear hg hw hp_))
         go_loopg [8] k2 (fun kq v8 w' => ∃ (x6_3 : List Int) (x8_3 : Int), v8 = .int .i64 x8_3 ∧ Aside0 (selfstabref01_Distances.l1 kq (l0_1.length : Int) x6_3 x8_3 l0_0 l0_1 = some r) ∧ Aside0 (kq ≤ k2) ∧ Aside0 (Kd.R (Kd.int .i64) 3 w' w.heap.size (fun _ => True) (.slice (some ⟨go20, 0, none⟩) x6_2.length co20) x6_3) ∧ Aside0 (w'.heap[gb545]? = some (.cells #[(.slice A0_0 l0_0.length c0_0), (.slice A0_1 l0_1.length c0_1)] 27 (0, 0))) ∧ Aside0 (Below w.heap.size w w'))
         case atStart => exact ⟨(y551), (1), (by first | rfl | (simp; done) | (simp [*]; done)), H', ⟨Nat.le_refl _⟩, ⟨by (with_reducible repeat (first | apply Kd.R_alloc | apply Kd.R_drewN | apply Kd.R_drew)); exact HO_6.out⟩, ⟨by (with_reducible repeat (first | refine blk_drewN ?_ _ | refine blk_drew ?_ | refine blk_alloc ?_ _)); exact BK545.out⟩, ⟨by repeat (first | (with_reducible first | exact HB.out | apply below_alloc | apply pw_below_drewN | apply below_drew1 | refine below_set ?_ GE545.out) | exact HB.out)⟩⟩
         case round =>
          clear H'
          try clear c1
          try clear p2
          try clear q2
          try clear hx2
          try clear hf2
          try clear c6
          try clear p6
          try clear c7
          try clear c12
          try clear c13
          try clear c15
          try clear c15b0
          try clear c16
          try clear c18
          try clear c18b0
          try clear c19
          try clear c19b0
          try clear p20
          try clear q20
          try clear hx20
          try clear hf20
          try clear hcz10_0
          try clear hcz10_1
          try clear hcz11_0
          try clear hcz11_1
          try clear hcz14_0
          try clear hcz14_1
          try clear hcz8_0
          try clear hcz8_1
          try clear hfz10_0
          try clear hfz10_1
          try clear hfz11_0
          try clear hfz11_1
          try clear hfz14_0
          try clear hfz14_1
          try clear hfz8_0
          try clear hfz8_1
          try clear hx20_0
          try clear p2
          try clear p20
          try clear p6
          try clear q20
          obtain ⟨x6_3, x8_3, rfl, HA, HK3, HO_6, BK545, HB⟩ := hrel
          have hl6_3 := (Kd.R_reads' HO_6.out).1
          rw [hl6_3] at HO_6
          (try simp only [hl6_3])
          (try simp only [hl6_3] at BK545)
          cases gk with
          | zero => exact absurd HA.out (by simp [selfstabref01_Distances.l1])
          | succ k3 =>
           have H := HA.out
           clear HA
           simp only [selfstabref01_Distances.l1] at H
           by_cases c23 : x8_3 < (l0_1.length : Int)
           ·
            rw [if_pos c23] at H
            have c23b0 : decide (x8_3 < (l0_1.length : Int)) = true := decide_eq_true c23
            clear c23
            have H' := Aside0.mk H
            clear H
            go_wp2
            go_loopg [9] k3 (fun kq v9 w' => ∃ (x6_4 : List Int) (x9_4 : Int), v9 = .int .i64 x9_4 ∧ Aside0 (selfstabref01_Distances.l2 kq (l0_1.length : Int) x6_4 x8_3 x9_4 l0_0 l0_1 = some r) ∧ Aside0 (kq ≤ k3) ∧ Aside0 (Kd.R (Kd.int .i64) 3 w' w.heap.size (fun _ => True) (.slice (some ⟨go20, 0, none⟩) x6_3.length co20) x6_4) ∧ Aside0 (w'.heap[gb545]? = some (.cells #[(.slice A0_0 l0_0.length c0_0), (.slice A0_1 l0_1.length c0_1)] 27 (0, 0))) ∧ Aside0 (Below w.heap.size w w'))
            case atStart => exact ⟨(x6_3), (0), (by first | rfl | (simp; done) | (simp [*]; done)), H', ⟨Nat.le_refl _⟩, ⟨by (try simp only [hl6_3]); (with_reducible repeat (first | apply Kd.R_alloc | apply Kd.R_drewN | apply Kd.R_drew)); exact HO_6.out⟩, ⟨by (try simp only [hl6_3]); (with_reducible repeat (first | refine blk_drewN ?_ _ | refine blk_drew ?_ | refine blk_alloc ?_ _)); exact BK545.out⟩, ⟨by repeat (first | (with_reducible first | exact HB.out | apply below_alloc | apply pw_below_drewN | apply below_drew1 | refine below_set ?_ GE545.out) | exact HB.out)⟩⟩
            case round =>
             clear H'
             try clear c1
             try clear c2
             try clear p2
             try clear q2
             try clear hx2
             try clear hf2
             try clear c6
             try clear p6
             try clear c7
             try clear c12
             try clear c13
             try clear c15
             try clear c15b0
             try clear c16
             try clear c18
             try clear c18b0
             try clear c19
             try clear c19b0
             try clear p20
             try clear q20
             try clear hx20
             try clear hf20
             try clear c23
             try clear c23b0
             try clear hcz10_0
             try clear hcz10_1
             try clear hcz11_0
             try clear hcz11_1
             try clear hcz14_0
             try clear hcz14_1
             try clear hcz8_0
             try clear hcz8_1
             try clear hfz10_0
             try clear hfz10_1
             try clear hfz11_0
             try clear hfz11_1
             try clear hfz14_0
             try clear hfz14_1
             try clear hfz8_0
             try clear hfz8_1
             try clear hx20_0
             try clear p2
             try clear p20
             try clear p6
             try clear q2
             try clear q20
             obtain ⟨x6_4, x9_4, rfl, HA, HK4, HO_6, BK545, HB⟩ := hrel
             have hl6_4 := (Kd.R_reads' HO_6.out).1
             rw [hl6_4] at HO_6
             (try simp only [hl6_4])
             (try simp only [hl6_4] at BK545)
             cases gk with
             | zero => exact absurd HA.out (by simp [selfstabref01_Distances.l2])
             | succ k4 =>
              have H := HA.out
              clear HA
              simp only [selfstabref01_Distances.l2] at H
              by_cases c24 : x9_4 < (l0_1.length : Int)
              ·
               rw [if_pos c24] at H
               have c24b0 : decide (x9_4 < (l0_1.length : Int)) = true := decide_eq_true c24
               clear c24
               have H' := Aside0.mk H
               clear H
               go_wp2
               go_loopg [10] k4 (fun kq v10 w' => ∃ (x6_5 : List Int) (x10_5 : Int), v10 = .int .i64 x10_5 ∧ Aside0 (selfstabref01_Distances.l3 kq (l0_1.length : Int) x6_5 x8_3 x9_4 x10_5 l0_0 l0_1 = some r) ∧ Aside0 (kq ≤ k4) ∧ Aside0 (Kd.R (Kd.int .i64) 3 w' w.heap.size (fun _ => True) (.slice (some ⟨go20, 0, none⟩) x6_4.length co20) x6_5) ∧ Aside0 (w'.heap[gb545]? = some (.cells #[(.slice A0_0 l0_0.length c0_0), (.slice A0_1 l0_1.length c0_1)] 27 (0, 0))) ∧ Aside0 (Below w.heap.size w w'))
               case atStart => exact ⟨(x6_4), (0), (by first | rfl | (simp; done) | (simp [*]; done)), H', ⟨Nat.le_refl _⟩, ⟨by (try simp only [hl6_3]); (try simp only [hl6_4]); (with_reducible repeat (first | apply Kd.R_alloc | apply Kd.R_drewN | apply Kd.R_drew)); exact HO_6.out⟩, ⟨by (try simp only [hl6_3]); (try simp only [hl6_4]); (with_reducible repeat (first | refine blk_drewN ?_ _ | refine blk_drew ?_ | refine blk_alloc ?_ _)); exact BK545.out⟩, ⟨by repeat (first | (with_reducible first | exact HB.out | apply below_alloc | apply pw_below_drewN | apply below_drew1 | refine below_set ?_ GE545.out) | exact HB.out)⟩⟩
               case round =>
                clear H'
                try clear c1
                try clear c2
                try clear p2
                try clear q2
                try clear hx2
                try clear hf2
                try clear c6
                try clear p6
                try clear c7
                try clear c12
                try clear c13
                try clear c15
                try clear c15b0
                try clear c16
                try clear c18
                try clear c18b0
                try clear c19
                try clear c19b0
                try clear p20
                try clear q20
                try clear hx20
                try clear hf20
                try clear c23
                try clear c23b0
                try clear c24
                try clear c24b0
                try clear hcz10_0
                try clear hcz10_1
                try clear hcz11_0
                try clear hcz11_1
                try clear hcz14_0
                try clear hcz14_1
                try clear hcz8_0
                try clear hcz8_1
                try clear hfz10_0
                try clear hfz10_1
                try clear hfz11_0
                try clear hfz11_1
                try clear hfz14_0
                try clear hfz14_1
                try clear hfz8_0
                try clear hfz8_1
                try clear hx20_0
                try clear p2
                try clear p20
                try clear p6
                try clear q2
                try clear q20
                obtain ⟨x6_5, x10_5, rfl, HA, HK5, HO_6, BK545, HB⟩ := hrel
                have hl6_5 := (Kd.R_reads' HO_6.out).1
                rw [hl6_5] at HO_6
                (try simp only [hl6_5])
                (try simp only [hl6_5] at BK545)
                cases gk with
                | zero => exact absurd HA.out (by simp [selfstabref01_Distances.l3])
                | succ k5 =>
                 have H := HA.out
                 clear HA
                 simp only [selfstabref01_Distances.l3] at H
                 have HC25 := Aside0.mk H
                 clear H
                 go_upto_region 17 with (fail)
                 go_cut [61] (fun v61 wc => ∃ (kq : Nat) (x61_24 : Bool), v61 = .bool x61_24 ∧ Aside0 (selfstabref01_Distances.j5 kq (l0_1.length : Int) x6_5 x8_3 x9_4 x10_5 x61_24 l0_0 l0_1 = some r) ∧ Aside0 (kq ≤ k5) ∧ Aside0 (Kd.R (Kd.int .i64) 3 wc w.heap.size (fun _ => True) (.slice (some ⟨go20, 0, none⟩) x6_5.length co20) x6_5) ∧ Aside0 (wc.heap[gb545]? = some (.cells #[(.slice A0_0 l0_0.length c0_0), (.slice A0_1 l0_1.length c0_1)] 27 (0, 0))) ∧ Aside0 (Below w.heap.size w wc))
                 case first =>
                  have H := HC25.out
                  clear HC25
                  by_cases c26 : 0 ≤ x9_4
                  ·
                   rw [if_pos c26] at H
                   have c26b0 : decide (0 ≤ x9_4) = true := decide_eq_true c26
                   clear c26
                   (first | rw [c26b0] | (simp only [i64_w, i32_w]; rw [c26b0]) | skip)
                   by_cases c27 : x9_4 < (l0_1.length : Int)
                   ·
                    rw [if_pos c27] at H
                    have c27b0 : decide (x9_4 < (l0_1.length : Int)) = true := decide_eq_true c27
                    clear c27
                    by_cases c28 : x10_5 < ((rd_L2 l0_1 x9_4).length : Int)
                    ·
                     rw [if_pos c28] at H
                     have c28b0 : decide (x10_5 < ((rd_L2 l0_1 x9_4).length : Int)) = true := decide_eq_true c28
                     clear c28
                     by_cases c29 : x9_4 < (x6_5.length : Int)
                     ·
                      rw [if_pos c29] at H
                      have c29b0 : decide (x9_4 < (x6_5.length : Int)) = true := decide_eq_true c29
                      clear c29
                      have H' := Aside0.mk H
                      clear H
                      have hcz30_0 : wr.cell? ⟨gb545, 0, none⟩ = some (.slice A0_0 l0_0.length c0_0) := (blk_cell BK545.out 0).trans rfl
                      have hcz30_1 : wr.cell? ⟨gb545, 1, none⟩ = some (.slice A0_1 l0_1.length c0_1) := (blk_cell BK545.out 1).trans rfl
                      have hfz30_0 := blk_frozen BK545.out 0
                      have hfz30_1 := blk_frozen BK545.out 1
                      have p552 : 0 ≤ (x9_4 : Int) := of_decide_eq_true (by first | (with_reducible assumption) | assumption)
                      have q552 : x9_4 < (l0_1.length : Int) := of_decide_eq_true (by first | (with_reducible assumption) | assumption)
                      obtain ⟨ad552, A552_0, c552_0, e552, hx552_0, hl552_0, hi552_0⟩ := at_L2 HR0_1.out x9_4 p552 q552
                      cases e552
                      replace hx552_0 := (HB.out.cell (World.block_lt_of_cell? w _ hx552_0)).trans hx552_0
                      have HR552_0 := Aside0.mk hi552_0
                      have HC552_0 := Aside0.mk hl552_0
                      clear hi552_0 hl552_0
                      replace p552 := eq_true p552
                      replace q552 := eq_true q552
                      have p553 : 0 ≤ (x9_4 : Int) := of_decide_eq_true (by first | (with_reducible assumption) | assumption)
                      have q553 : x9_4 < (x6_5.length : Int) := of_decide_eq_true (by first | (with_reducible assumption) | assumption)
                      obtain ⟨ad553, e553, hx553_0⟩ := Kd.at_int (Kd.R_reads' HO_6.out).2.2 x9_4 p553 q553
                      obtain rfl : (⟨go20, 0, none⟩ : Addr) = ad553 := (by injection e553)
                      (first | simp only [add_plain] at hx553_0 | simp only [add_at] at hx553_0 | simp only [Addr.add, Nat.zero_add] at hx553_0 | skip)
                      replace p553 := eq_true p553
                      replace q553 := eq_true q553
                      go_wp2
                      go_meet
                      case rel => exact ⟨_, (decide ((rd x6_5 x9_4) < 0)), (by first | rfl | (simp; done) | (simp [*]; done)), H', ⟨by have := HJ2.out; have := HK2.out; have := HK3.out; have := HK4.out; have := HK5.out; first | omega | exact Nat.le_refl _⟩, ⟨by (try simp only [hl6_3]); (try simp only [hl6_4]); (try simp only [hl6_5]); (with_reducible repeat (first | apply Kd.R_alloc | apply Kd.R_drewN | apply Kd.R_drew)); exact HO_6.out⟩, ⟨by (try simp only [hl6_3]); (try simp only [hl6_4]); (try simp only [hl6_5]); (with_reducible repeat (first | refine blk_drewN ?_ _ | refine blk_drew ?_ | refine blk_alloc ?_ _)); exact BK545.out⟩, ⟨by repeat (first | (with_reducible first | exact HB.out | apply below_alloc | apply pw_below_drewN | apply below_drew1 | refine below_set ?_ GE545.out) | exact HB.out)⟩⟩
                     ·
                      rw [if_neg c29] at H
                      exact absurd H (by simp)
                    ·
                     rw [if_neg c28] at H
                     have c28b0 : decide (x10_5 < ((rd_L2 l0_1 x9_4).length : Int)) = false := decide_eq_false c28
                     clear c28
                     have H' := Aside0.mk H
                     clear H
                     have hcz31_0 : wr.cell? ⟨gb545, 0, none⟩ = some (.slice A0_0 l0_0.length c0_0) := (blk_cell BK545.out 0).trans rfl
                     have hcz31_1 : wr.cell? ⟨gb545, 1, none⟩ = some (.slice A0_1 l0_1.length c0_1) := (blk_cell BK545.out 1).trans rfl
                     have hfz31_0 := blk_frozen BK545.out 0
                     have hfz31_1 := blk_frozen BK545.out 1
                     have p552 : 0 ≤ (x9_4 : Int) := of_decide_eq_true (by first | (with_reducible assumption) | assumption)
                     have q552 : x9_4 < (l0_1.length : Int) := of_decide_eq_true (by first | (with_reducible assumption) | assumption)
                     obtain ⟨ad552, A552_0, c552_0, e552, hx552_0, hl552_0, hi552_0⟩ := at_L2 HR0_1.out x9_4 p552 q552
                     cases e552
                     replace hx552_0 := (HB.out.cell (World.block_lt_of_cell? w _ hx552_0)).trans hx552_0
                     have HR552_0 := Aside0.mk hi552_0
                     have HC552_0 := Aside0.mk hl552_0
                     clear hi552_0 hl552_0
                     replace p552 := eq_true p552
                     replace q552 := eq_true q552
                     go_wp2
                     go_meet
                     case rel => exact ⟨_, (false), (by first | rfl | (simp; done) | (simp [*]; done)), H', ⟨by have := HJ2.out; have := HK2.out; have := HK3.out; have := HK4.out; have := HK5.out; first | omega | exact Nat.le_refl _⟩, ⟨by (try simp only [hl6_3]); (try simp only [hl6_4]); (try simp only [hl6_5]); (with_reducible repeat (first | apply Kd.R_alloc | apply Kd.R_drewN | apply Kd.R_drew)); exact HO_6.out⟩, ⟨by (try simp only [hl6_3]); (try simp only [hl6_4]); (try simp only [hl6_5]); (with_reducible repeat (first | refine blk_drewN ?_ _ | refine blk_drew ?_ | refine blk_alloc ?_ _)); exact BK545.out⟩, ⟨by repeat (first | (with_reducible first | exact HB.out | apply below_alloc | apply pw_below_drewN | apply below_drew1 | refine below_set ?_ GE545.out) | exact HB.out)⟩⟩
                   ·
                    rw [if_neg c27] at H
                    exact absurd H (by simp)
                  ·
                   rw [if_neg c26] at H
                   exact absurd H (by simp)
                 case rest =>
                  clear HC25
                  try clear c1
                  try clear c2
                  try clear p2
                  try clear q2
                  try clear hx2
                  try clear hf2
                  try clear c5
                  try clear p5
                  try clear q5
                  try clear hx5
                  try clear c6
                  try clear p6
                  try clear c7
                  try clear c12
                  try clear c13
                  try clear c15
                  try clear c15b0
                  try clear c16
                  try clear c18
                  try clear c18b0
                  try clear c19
                  try clear c19b0
                  try clear p20
                  try clear q20
                  try clear hx20
                  try clear hf20
                  try clear c23
                  try clear c23b0
                  try clear c24
                  try clear c24b0
                  try clear c26
                  try clear c26b0
                  try clear c27
                  try clear c27b0
                  try clear c28
                  try clear c28b0
                  try clear c29
                  try clear c29b0
                  try clear hcz10_0
                  try clear hcz10_1
                  try clear hcz11_0
                  try clear hcz11_1
                  try clear hcz14_0
                  try clear hcz14_1
                  try clear hcz30_0
                  try clear hcz30_1
                  try clear hcz31_0
                  try clear hcz31_1
                  try clear hcz8_0
                  try clear hcz8_1
                  try clear hfz10_0
                  try clear hfz10_1
                  try clear hfz11_0
                  try clear hfz11_1
                  try clear hfz14_0
                  try clear hfz14_1
                  try clear hfz30_0
                  try clear hfz30_1
                  try clear hfz31_0
                  try clear hfz31_1
                  try clear hfz8_0
                  try clear hfz8_1
                  try clear hx20_0
                  try clear hx552_0
                  try clear hx553_0
                  try clear p2
                  try clear p20
                  try clear p552
                  try clear p553
                  try clear p6
                  try clear q2
                  try clear q20
                  try clear q552
                  try clear q553
                  obtain ⟨kq, x61_24, rfl, HA, HJ24, HO_6, BK545, HB⟩ := hcut
                  cases kq with
                  | zero => exact absurd HA.out (by simp [selfstabref01_Distances.j5])
                  | succ kj24 =>
                   have H := HA.out
                   clear HA
                   simp only [selfstabref01_Distances.j5] at H
                   by_cases c32 : x61_24 = true
                   ·
                    subst c32
                    have H1 : (if 0 ≤ x9_4 then (if x9_4 < (l0_1.length : Int) then (if 0 ≤ x10_5 then (if x10_5 < ((rd_L2 l0_1 x9_4).length : Int) then (if 0 ≤ ((rd_T60 (rd_L2 l0_1 x9_4) x10_5).f0) then (if ((rd_T60 (rd_L2 l0_1 x9_4) x10_5).f0) < (x6_5.length : Int) then (if (rd x6_5 ((rd_T60 (rd_L2 l0_1 x9_4) x10_5).f0)) = (wrap64 (x8_3 - 1)) then (if x9_4 < (x6_5.length : Int) then (selfstabref01_Distances.l3 kj24 (l0_1.length : Int) (x6_5.set (x9_4 : Int).toNat x8_3) x8_3 x9_4 (wrap64 (x10_5 + 1)) l0_0 l0_1) else (none)) else (selfstabref01_Distances.l3 kj24 (l0_1.length : Int) x6_5 x8_3 x9_4 (wrap64 (x10_5 + 1)) l0_0 l0_1)) else (none)) else (none)) else (none)) else (none)) else (none)) else (none)) = some r := by rw [if_pos rfl] at H; exact H
                    clear H
                    have H := H1
                    clear H1
                    by_cases c33 : 0 ≤ x9_4
                    ·
                     rw [if_pos c33] at H
                     have c33b0 : decide (0 ≤ x9_4) = true := decide_eq_true c33
                     clear c33
                     by_cases c34 : x9_4 < (l0_1.length : Int)
                     ·
                      rw [if_pos c34] at H
                      have c34b0 : decide (x9_4 < (l0_1.length : Int)) = true := decide_eq_true c34
                      clear c34
                      by_cases c35 : 0 ≤ x10_5
                      ·
                       rw [if_pos c35] at H
                       have c35b0 : decide (0 ≤ x10_5) = true := decide_eq_true c35
                       clear c35
                       by_cases c36 : x10_5 < ((rd_L2 l0_1 x9_4).length : Int)
                       ·
                        rw [if_pos c36] at H
                        have c36b0 : decide (x10_5 < ((rd_L2 l0_1 x9_4).length : Int)) = true := decide_eq_true c36
                        clear c36
                        by_cases c37 : 0 ≤ ((rd_T60 (rd_L2 l0_1 x9_4) x10_5).f0)
                        ·
                         rw [if_pos c37] at H
                         have c37b0 : decide (0 ≤ ((rd_T60 (rd_L2 l0_1 x9_4) x10_5).f0)) = true := decide_eq_true c37
                         clear c37
                         by_cases c38 : ((rd_T60 (rd_L2 l0_1 x9_4) x10_5).f0) < (x6_5.length : Int)
                         ·
                          rw [if_pos c38] at H
                          have c38b0 : decide (((rd_T60 (rd_L2 l0_1 x9_4) x10_5).f0) < (x6_5.length : Int)) = true := decide_eq_true c38
                          clear c38
                          by_cases c39 : (rd x6_5 ((rd_T60 (rd_L2 l0_1 x9_4) x10_5).f0)) = (wrap64 (x8_3 - 1))
                          ·
                           rw [if_pos c39] at H
                           have c39b0 : ((rd x6_5 ((rd_T60 (rd_L2 l0_1 x9_4) x10_5).f0)) == (wrap64 (x8_3 - 1))) = true := beq_iff_eq.mpr c39
                           have c39b1 : ((rd x6_5 ((rd_T60 (rd_L2 l0_1 x9_4) x10_5).f0)) != (wrap64 (x8_3 - 1))) = false := bne_eq_false_iff_eq.mpr c39
                           clear c39
                           by_cases c40 : x9_4 < (x6_5.length : Int)
                           ·
                            rw [if_pos c40] at H
                            have c40b0 : decide (x9_4 < (x6_5.length : Int)) = true := decide_eq_true c40
                            clear c40
                            obtain ⟨y557, hy557⟩ : ∃ y_ : List Int, y_ = (x6_5.set (x9_4 : Int).toNat x8_3) := ⟨_, rfl⟩
                            replace H : (selfstabref01_Distances.l3 kj24 (l0_1.length : Int) y557 x8_3 x9_4 (wrap64 (x10_5 + 1)) l0_0 l0_1) = some r := by first | (rw [hy557]; with_reducible exact H) | (have H2_ := (Option.bind_some _ _).symm.trans H; rw [hy557]; with_reducible exact H2_) | (have H2_ := (Option.bind_some _ _).symm.trans H; with_reducible exact H2_) | with_reducible exact H | (rw [hy557]; exact H) | exact H
                            have Ny557 := Aside0.mk hy557
                            clear hy557
                            have H' := Aside0.mk H
                            clear H
                            have hcz42_0 : wc.cell? ⟨gb545, 0, none⟩ = some (.slice A0_0 l0_0.length c0_0) := (blk_cell BK545.out 0).trans rfl
                            have hcz42_1 : wc.cell? ⟨gb545, 1, none⟩ = some (.slice A0_1 l0_1.length c0_1) := (blk_cell BK545.out 1).trans rfl
                            have hfz42_0 := blk_frozen BK545.out 0
                            have hfz42_1 := blk_frozen BK545.out 1
                            have p554 : 0 ≤ (x9_4 : Int) := of_decide_eq_true (by first | (with_reducible assumption) | assumption)
                            have q554 : x9_4 < (l0_1.length : Int) := of_decide_eq_true (by first | (with_reducible assumption) | assumption)
                            obtain ⟨ad554, A554_0, c554_0, e554, hx554_0, hl554_0, hi554_0⟩ := at_L2 HR0_1.out x9_4 p554 q554
                            cases e554
                            replace hx554_0 := (HB.out.cell (World.block_lt_of_cell? w _ hx554_0)).trans hx554_0
                            have HR554_0 := Aside0.mk hi554_0
                            have HC554_0 := Aside0.mk hl554_0
                            clear hi554_0 hl554_0
                            replace p554 := eq_true p554
                            replace q554 := eq_true q554
                            have p555 : 0 ≤ (x10_5 : Int) := of_decide_eq_true (by first | (with_reducible assumption) | assumption)
                            have q555 : x10_5 < ((rd_L2 l0_1 x9_4).length : Int) := of_decide_eq_true (by first | (with_reducible assumption) | assumption)
                            obtain ⟨ad555, e555, hx555_0, hx555_1⟩ := at_T60 HR554_0.out x10_5 p555 q555
                            cases e555
                            replace hx555_0 := (HB.out.cell (World.block_lt_of_cell? w _ hx555_0)).trans hx555_0
                            replace hx555_1 := (HB.out.cell (World.block_lt_of_cell? w _ hx555_1)).trans hx555_1
                            replace p555 := eq_true p555
                            replace q555 := eq_true q555
                            have p556 : 0 ≤ (((rd_T60 (rd_L2 l0_1 x9_4) x10_5).f0) : Int) := of_decide_eq_true (by first | (with_reducible assumption) | assumption)
                            have q556 : ((rd_T60 (rd_L2 l0_1 x9_4) x10_5).f0) < (x6_5.length : Int) := of_decide_eq_true (by first | (with_reducible assumption) | assumption)
                            obtain ⟨ad556, e556, hx556_0⟩ := Kd.at_int (Kd.R_reads' HO_6.out).2.2 ((rd_T60 (rd_L2 l0_1 x9_4) x10_5).f0) p556 q556
                            obtain rfl : (⟨go20, 0, none⟩ : Addr) = ad556 := (by injection e556)
                            (first | simp only [add_plain] at hx556_0 | simp only [add_at] at hx556_0 | simp only [Addr.add, Nat.zero_add] at hx556_0 | skip)
                            replace p556 := eq_true p556
                            replace q556 := eq_true q556
                            have p41 : 0 ≤ (x9_4 : Int) := of_decide_eq_true (by first | (with_reducible assumption) | assumption)
                            have q41 : (x9_4 : Int) < ((x6_5.length : Int) : Int) := of_decide_eq_true (by first | (with_reducible assumption) | assumption)
                            obtain ⟨hx41_0, hf41_0⟩ := Kd.R_celln 0 HO_6.out (x9_4 : Int) p41 q41
                            replace p41 := eq_true p41
                            replace q41 := eq_true q41
                            have HP43 := Kd.R_putg HO_6.out (x9_4 : Int) x8_3
                            go_wp2_with (first | ((with_reducible refine gate_store (t := 3) (p := 82) rfl ?_); refine store_event (t := 3) (p := 82) (v := ?vo_w44) (w1 := (wc.setCell ⟨go20, (x9_4 : Int).toNat, none⟩ (.int .i64 x8_3))) ?hg ?ho ?hn ?hr ?_; (case ho => rfl); (case hg => rfl); (case hn => rfl); (case hr => first | (go_simp; done) | (go_simp; rfl)); intro w44 hw; have hg : wc.grownBy w44 (some go20) := (by rw [hw]; exact HP43.2); have hp_ : Kd.R (Kd.int .i64) 3 w44 w.heap.size (fun _ => True) (.slice (some ⟨go20, 0, none⟩) x6_5.length co20) y557 := (by rw [hw, Ny557.out]; exact HP43.1); clear HP43; have n0_ := Aside0.mk (hp_); have n1_ := Aside0.mk (blk_grown (g := gb545) (o := .cells #[.slice A0_0 l0_0.length c0_0, .slice (some ad554) l0_1.length c0_1] 27 (0, 0)) (by (with_reducible repeat (first | refine blk_drewN ?_ _ | refine blk_drew ?_ | refine blk_alloc ?_ _)); exact BK545.out) hg (Kd.R_ne HO_6.out BK545.out (by decide))); have n2_ := Aside0.mk ((by rw [hw]; exact below_set (HB.out) GB20.out : Below w.heap.size w w44)); clear HO_6; clear BK545; clear HB; have HO_6 := n0_; have BK545 := n1_; have HB := n2_; clear n0_ n1_ n2_; clear hg hw hp_))
                            (try simp only [← hl6_5])
                            go_roundg kj24
                            case measure => have := HJ2.out; have := HK2.out; have := HK3.out; have := HK4.out; have := HK5.out; have := HJ24.out; omega
                            case rel => exact ⟨(y557), (wrap64 (x10_5 + 1)), (by first | rfl | (simp; done) | (simp [*]; done)), H', ⟨by have := HJ2.out; have := HK2.out; have := HK3.out; have := HK4.out; have := HK5.out; have := HJ24.out; omega⟩, ⟨by (try simp only [hl6_3]); (try simp only [hl6_4]); (try simp only [hl6_5]); (with_reducible repeat (first | apply Kd.R_alloc | apply Kd.R_drewN | apply Kd.R_drew)); exact HO_6.out⟩, ⟨by (try simp only [hl6_3]); (try simp only [hl6_4]); (try simp only [hl6_5]); (with_reducible repeat (first | refine blk_drewN ?_ _ | refine blk_drew ?_ | refine blk_alloc ?_ _)); exact BK545.out⟩, ⟨by repeat (first | (with_reducible first | exact HB.out | apply below_alloc | apply pw_below_drewN | apply below_drew1 | refine below_set ?_ GE545.out) | exact HB.out)⟩⟩
                           ·
                            rw [if_neg c40] at H
                            exact absurd H (by simp)
                          ·
                           rw [if_neg c39] at H
                           have c39b0 : ((rd x6_5 ((rd_T60 (rd_L2 l0_1 x9_4) x10_5).f0)) == (wrap64 (x8_3 - 1))) = false := beq_eq_false_iff_ne.mpr c39
                           have c39b1 : ((rd x6_5 ((rd_T60 (rd_L2 l0_1 x9_4) x10_5).f0)) != (wrap64 (x8_3 - 1))) = true := bne_iff_ne.mpr c39
                           have H' := Aside0.mk H
                           clear H
                           have hcz45_0 : wc.cell? ⟨gb545, 0, none⟩ = some (.slice A0_0 l0_0.length c0_0) := (blk_cell BK545.out 0).trans rfl
                           have hcz45_1 : wc.cell? ⟨gb545, 1, none⟩ = some (.slice A0_1 l0_1.length c0_1) := (blk_cell BK545.out 1).trans rfl
                           have hfz45_0 := blk_frozen BK545.out 0
                           have hfz45_1 := blk_frozen BK545.out 1
                           have p554 : 0 ≤ (x9_4 : Int) := of_decide_eq_true (by first | (with_reducible assumption) | assumption)
                           have q554 : x9_4 < (l0_1.length : Int) := of_decide_eq_true (by first | (with_reducible assumption) | assumption)
                           obtain ⟨ad554, A554_0, c554_0, e554, hx554_0, hl554_0, hi554_0⟩ := at_L2 HR0_1.out x9_4 p554 q554
                           cases e554
                           replace hx554_0 := (HB.out.cell (World.block_lt_of_cell? w _ hx554_0)).trans hx554_0
                           have HR554_0 := Aside0.mk hi554_0
                           have HC554_0 := Aside0.mk hl554_0
                           clear hi554_0 hl554_0
                           replace p554 := eq_true p554
                           replace q554 := eq_true q554
                           have p555 : 0 ≤ (x10_5 : Int) := of_decide_eq_true (by first | (with_reducible assumption) | assumption)
                           have q555 : x10_5 < ((rd_L2 l0_1 x9_4).length : Int) := of_decide_eq_true (by first | (with_reducible assumption) | assumption)
                           obtain ⟨ad555, e555, hx555_0, hx555_1⟩ := at_T60 HR554_0.out x10_5 p555 q555
                           cases e555
                           replace hx555_0 := (HB.out.cell (World.block_lt_of_cell? w _ hx555_0)).trans hx555_0
                           replace hx555_1 := (HB.out.cell (World.block_lt_of_cell? w _ hx555_1)).trans hx555_1
                           replace p555 := eq_true p555
                           replace q555 := eq_true q555
                           have p556 : 0 ≤ (((rd_T60 (rd_L2 l0_1 x9_4) x10_5).f0) : Int) := of_decide_eq_true (by first | (with_reducible assumption) | assumption)
                           have q556 : ((rd_T60 (rd_L2 l0_1 x9_4) x10_5).f0) < (x6_5.length : Int) := of_decide_eq_true (by first | (with_reducible assumption) | assumption)
                           obtain ⟨ad556, e556, hx556_0⟩ := Kd.at_int (Kd.R_reads' HO_6.out).2.2 ((rd_T60 (rd_L2 l0_1 x9_4) x10_5).f0) p556 q556
                           obtain rfl : (⟨go20, 0, none⟩ : Addr) = ad556 := (by injection e556)
                           (first | simp only [add_plain] at hx556_0 | simp only [add_at] at hx556_0 | simp only [Addr.add, Nat.zero_add] at hx556_0 | skip)
                           replace p556 := eq_true p556
                           replace q556 := eq_true q556
                           go_wp2
                           (try simp only [← hl6_5])
                           go_roundg kj24
                           case measure => have := HJ2.out; have := HK2.out; have := HK3.out; have := HK4.out; have := HK5.out; have := HJ24.out; omega
                           case rel => exact ⟨(x6_5), (wrap64 (x10_5 + 1)), (by first | rfl | (simp; done) | (simp [*]; done)), H', ⟨by have := HJ2.out; have := HK2.out; have := HK3.out; have := HK4.out; have := HK5.out; have := HJ24.out; omega⟩, ⟨by (try simp only [hl6_3]); (try simp only [hl6_4]); (try simp only [hl6_5]); (with_reducible repeat (first | apply Kd.R_alloc | apply Kd.R_drewN | apply Kd.R_drew)); exact HO_6.out⟩, ⟨by (try simp only [hl6_3]); (try simp only [hl6_4]); (try simp only [hl6_5]); (with_reducible repeat (first | refine blk_drewN ?_ _ | refine blk_drew ?_ | refine blk_alloc ?_ _)); exact BK545.out⟩, ⟨by repeat (first | (with_reducible first | exact HB.out | apply below_alloc | apply pw_below_drewN | apply below_drew1 | refine below_set ?_ GE545.out) | exact HB.out)⟩⟩
                         ·
                          rw [if_neg c38] at H
                          exact absurd H (by simp)
                        ·
                         rw [if_neg c37] at H
                         exact absurd H (by simp)
                       ·
                        rw [if_neg c36] at H
                        exact absurd H (by simp)
                      ·
                       rw [if_neg c35] at H
                       exact absurd H (by simp)
                     ·
                      rw [if_neg c34] at H
                      exact absurd H (by simp)
                    ·
                     rw [if_neg c33] at H
                     exact absurd H (by simp)
                   ·
                    replace c32 := Bool.eq_false_iff.mpr c32
                    subst c32
                    have H1 : (selfstabref01_Distances.l2 kj24 (l0_1.length : Int) x6_5 x8_3 (wrap64 (x9_4 + 1)) l0_0 l0_1) = some r := by rw [if_neg (show ¬ (false = true) by decide)] at H; exact H
                    clear H
                    have H := H1
                    clear H1
                    have H' := Aside0.mk H
                    clear H
                    go_wp2
                    (try simp only [← hl6_4, ← hl6_5])
                    go_roundg kj24
                    case measure => have := HJ2.out; have := HK2.out; have := HK3.out; have := HK4.out; have := HK5.out; have := HJ24.out; omega
                    case rel => exact ⟨(x6_5), (wrap64 (x9_4 + 1)), (by first | rfl | (simp; done) | (simp [*]; done)), H', ⟨by have := HJ2.out; have := HK2.out; have := HK3.out; have := HK4.out; have := HK5.out; have := HJ24.out; omega⟩, ⟨by (try simp only [hl6_3]); (try simp only [hl6_4]); (try simp only [hl6_5]); (with_reducible repeat (first | apply Kd.R_alloc | apply Kd.R_drewN | apply Kd.R_drew)); exact HO_6.out⟩, ⟨by (try simp only [hl6_3]); (try simp only [hl6_4]); (try simp only [hl6_5]); (with_reducible repeat (first | refine blk_drewN ?_ _ | refine blk_drew ?_ | refine blk_alloc ?_ _)); exact BK545.out⟩, ⟨by repeat (first | (with_reducible first | exact HB.out | apply below_alloc | apply pw_below_drewN | apply below_drew1 | refine below_set ?_ GE545.out) | exact HB.out)⟩⟩
              ·
               rw [if_neg c24] at H
               have c24b0 : decide (x9_4 < (l0_1.length : Int)) = false := decide_eq_false c24
               clear c24
               have H' := Aside0.mk H
               clear H
               go_wp2
               (try simp only [← hl6_3, ← hl6_4])
               go_roundg k4
               case measure => have := HJ2.out; have := HK2.out; have := HK3.out; have := HK4.out; omega
               case rel => exact ⟨(x6_4), (wrap64 (x8_3 + 1)), (by first | rfl | (simp; done) | (simp [*]; done)), H', ⟨by have := HJ2.out; have := HK2.out; have := HK3.out; have := HK4.out; omega⟩, ⟨by (try simp only [hl6_3]); (try simp only [hl6_4]); (with_reducible repeat (first | apply Kd.R_alloc | apply Kd.R_drewN | apply Kd.R_drew)); exact HO_6.out⟩, ⟨by (try simp only [hl6_3]); (try simp only [hl6_4]); (with_reducible repeat (first | refine blk_drewN ?_ _ | refine blk_drew ?_ | refine blk_alloc ?_ _)); exact BK545.out⟩, ⟨by repeat (first | (with_reducible first | exact HB.out | apply below_alloc | apply pw_below_drewN | apply below_drew1 | refine below_set ?_ GE545.out) | exact HB.out)⟩⟩
           ·
            rw [if_neg c23] at H
            have c23b0 : decide (x8_3 < (l0_1.length : Int)) = false := decide_eq_false c23
            clear c23
            obtain rfl := Option.some.inj H
            go_wp2
            go_ret
            exact ⟨_, by first | rfl | (simp [errW_none, errW_some] <;> rfl) | (simp [*, errW_none, errW_some] <;> rfl), by (with_reducible repeat (first | apply Kd.R_alloc | apply Kd.R_drewN | apply Kd.R_drew)); exact HO_6.out, by repeat (first | (with_reducible first | exact HB.out | apply below_alloc | apply pw_below_drewN | apply below_drew1 | refine below_set ?_ GE545.out) | exact HB.out)⟩
        ·
         rw [if_neg c19] at H
         exact absurd H (by simp)
       ·
        rw [if_neg c18] at H
        exact absurd H (by simp)
end Go.Proofs.YthapikakneikbaaG
