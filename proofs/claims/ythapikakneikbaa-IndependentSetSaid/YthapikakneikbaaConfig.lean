/-
  selfstabworld.Config: a configuration of variables, made of numbers.
-/
import Derived.Test.YthapikakneikbaaAny
import Derived.Test.YthapikakneikbaaShape
namespace Go.Proofs.Ythapikakneikbaa
open Go.RowKit

structure Var where
  name : ByteArray
  kind : Int
  lo : Int
  hi : Int
  pn : Int
  pid : Int
def kVar : Kd Var where
  sz := 6
  K := fun _ x cs => cs = [.string x.name, .int .i64 x.kind, .int .i64 x.lo, .int .i64 x.hi, .int .i64 x.pn, .int .i64 x.pid]
  len := fun h => by rw [h]; rfl
  one := fun h u hu => by
    rw [h] at hu
    simp only [List.mem_cons, List.not_mem_nil, or_false] at hu
    rcases hu with rfl | rfl | rfl | rfl | rfl | rfl <;> rfl
  keep := fun _ h => h
theorem at_var {w : World} {A : Option Addr} {xs : List Var} (h : kVar.C w A xs) (j : Nat) (hj : j < xs.length) : ∃ ad, A = some ad ∧ w.cell? ⟨(ad.add (j * 6)).block, (ad.add (j * 6)).off + 1, none⟩ = some (.int .i64 xs[j].kind) ∧
    w.cell? ⟨(ad.add (j * 6)).block, (ad.add (j * 6)).off + 2, none⟩ = some (.int .i64 xs[j].lo) ∧ w.cell? ⟨(ad.add (j * 6)).block, (ad.add (j * 6)).off + 3, none⟩ = some (.int .i64 xs[j].hi) ∧
    w.cell? ⟨(ad.add (j * 6)).block, (ad.add (j * 6)).off + 4, none⟩ = some (.int .i64 xs[j].pn) ∧ w.cell? ⟨(ad.add (j * 6)).block, (ad.add (j * 6)).off + 5, none⟩ = some (.int .i64 xs[j].pid) := by
  obtain ⟨ad, c, e, hK, hc⟩ := Kd.C_at h j hj
  obtain rfl := hK
  refine ⟨ad, e, ?_, ?_, ?_, ?_, ?_⟩
  · rw [← add_field _ _ 1 (by omega)]; exact hc 1 _ rfl
  · rw [← add_field _ _ 2 (by omega)]; exact hc 2 _ rfl
  · rw [← add_field _ _ 3 (by omega)]; exact hc 3 _ rfl
  · rw [← add_field _ _ 4 (by omega)]; exact hc 4 _ rfl
  · rw [← add_field _ _ 5 (by omega)]; exact hc 5 _ rfl

def topOf (ids : List Int) : Int := ids.foldl max 0
def Var.lo' (v : Var) : Int := if v.kind = 2 then 0 else if v.kind = 3 then -1 else v.lo
def Var.hi' (v : Var) (n : Nat) (top : Int) (deg : Nat) : Int := if v.kind = 2 then 1 else if v.kind = 3 then (deg : Int) - 1 else v.hi + v.pn * n + v.pid * top
/-- Numbers so small that nothing wraps. -/
structure Var.Small (v : Var) : Prop where
  lo : -1000 ≤ v.lo ∧ v.lo ≤ 1000
  hi : -1000 ≤ v.hi ∧ v.hi ≤ 1000
  pn : 0 ≤ v.pn ∧ v.pn ≤ 100
  pid : 0 ≤ v.pid ∧ v.pid ≤ 100
def cfgCell (g : Graph) (vars : List Var) (raw : List Int) (v i : Nat) : Int :=
  let x := vars.getD i ⟨default, 0, 0, 0, 0, 0⟩
  let hi := x.hi' g.ports.length (topOf g.ids) (g.ports.getD v []).length
  x.lo' + within (at0 raw (v * vars.length + i : Nat)) (hi - x.lo' + 1)
def cfgTo (g : Graph) (vars : List Var) (raw : List Int) (v k : Nat) : List Int := (List.range k).map (cfgCell g vars raw v)
def cfgRows (g : Graph) (vars : List Var) (raw : List Int) (k : Nat) : Conf := (List.range k).map fun v => cfgTo g vars raw v vars.length
def cfg (g : Graph) (vars : List Var) (raw : List Int) : Conf := cfgRows g vars raw g.ports.length
theorem cfgTo_len (g : Graph) (vars : List Var) (raw : List Int) (v k : Nat) : (cfgTo g vars raw v k).length = k := by simp [cfgTo]
theorem cfgRows_len (g : Graph) (vars : List Var) (raw : List Int) (k : Nat) : (cfgRows g vars raw k).length = k := by simp [cfgRows]
theorem cfgTo_step (g : Graph) (vars : List Var) (raw : List Int) (v k : Nat) : cfgTo g vars raw v (k + 1) = cfgTo g vars raw v k ++ [cfgCell g vars raw v k] := by simp [cfgTo, List.range_succ]
theorem cfgRows_step (g : Graph) (vars : List Var) (raw : List Int) (k : Nat) : cfgRows g vars raw (k + 1) = cfgRows g vars raw k ++ [cfgTo g vars raw k vars.length] := by simp [cfgRows, List.range_succ]
theorem topOf_bd {ids : List Int} (h : ∀ x ∈ ids, 0 ≤ x ∧ x ≤ 255) : 0 ≤ topOf ids ∧ topOf ids ≤ 255 := by
  suffices H : ∀ (l : List Int) (a : Int), (∀ x ∈ l, 0 ≤ x ∧ x ≤ 255) → 0 ≤ a ∧ a ≤ 255 → 0 ≤ l.foldl max a ∧ l.foldl max a ≤ 255 from H ids 0 h (by omega)
  intro l
  induction l with
  | nil => intro a _ h; exact h
  | cons x r ih =>
    intro a h1 h2
    have hx := h1 x (by simp)
    exact ih (max a x) (fun y hy => h1 y (by simp [hy])) (by omega)
theorem topOf_take {ids : List Int} {k : Nat} (hk : k < ids.length) : topOf (ids.take (k + 1)) = max (topOf (ids.take k)) ids[k] := by
  unfold topOf
  rw [List.take_succ_eq_append_getElem hk, List.foldl_append]
  rfl

theorem within_le {v m : Int} (hm : m ≤ 100000) : 0 ≤ within v m ∧ within v m ≤ 100000 := by
  by_cases h : m < 1
  · unfold within; rw [if_pos h]; omega
  · have := within_bd (v := v) (m := m) (by omega); omega
theorem own_heap {w w1 : World} {base : Nat} {e : TypeId} {size n : Nat} {v : Value} {xs : List Value} (h : w.ownsRow base e size v n xs) (hh : w1.heap = w.heap) : w1.ownsRow base e size v n xs := by
  rcases h with ⟨h1, h2 | ⟨g, cap, cur, h3, h4, h5, h6⟩⟩
  · exact ⟨h1, .inl h2⟩
  · exact ⟨h1, .inr ⟨g, cap, cur, h3, h4, by rw [hh]; exact h5, h6⟩⟩
/-- The rows that have been made lie in blocks of the call's own. -/
structure ConfAt (w wr : World) (cG : Array Value) (B : Nat) (vO : Value) (k : Nat) (xs : List Value) (c : Conf) : Prop where
  bG : wr.heap[w.heap.size]? = some (.cells cG 27 (0, 0))
  own : wr.ownsRow B 22 1 vO k xs
  rows : ∀ (j : Nat) v r, xs[j]? = some v → c[j]? = some r → wr.ownsRow B 3 1 v r.length (icells r)
  len : c.length = k
  bel : Below w.heap.size w wr

theorem own_below {w w1 : World} {base : Nat} {e : TypeId} {size n : Nat} {v : Value} {xs : List Value} (h : w.ownsRow base e size v n xs) (hb : Below w.heap.size w w1) : w1.ownsRow base e size v n xs := by
  rcases h with ⟨h1, h2 | ⟨g, cap, cur, h3, h4, h5, h6⟩⟩
  · exact ⟨h1, .inl h2⟩
  · exact ⟨h1, .inr ⟨g, cap, cur, h3, h4, blk_below h5 hb, h6⟩⟩
theorem ConfAt.step {w wv wq w5 : World} {cG : Array Value} {B m : Nat} {vO v2 vL : Value} {k : Nat} {xs : List Value} {c : Conf} {r : List Int} {o : Obj} (h : ConfAt w wv cG B vO k xs c) (hb : Below wv.heap.size wv wq) (hr : r.length = m)
    (hl : wq.ownsRow wv.heap.size 3 1 vL m (icells r)) (ho : w5.ownsRow B 22 1 v2 (k + 1) (xs ++ [vL])) (hg : (wq.alloc o).grownBy w5 vO.ownBlock) (hB : B ≤ wv.heap.size) (hw : w.heap.size ≤ B) : ConfAt w w5 cG B v2 (k + 1) (xs ++ [vL]) (c ++ [r]) := by
  have hoq := (own_below h.own hb).alloc o
  have keep : ∀ {v : Value} {n : Nat} {ys : List Value}, wq.ownsRow B 3 1 v n ys → w5.ownsRow B 3 1 v n ys := fun hv => own_keep (hv.alloc o) hg fun b hb2 => by
    obtain ⟨_, cells, hc⟩ := own_typed0 hoq b hb2
    exact own_ne (hv.alloc o) hc (by decide)
  have hxl : xs.length = k := by have := h.own.1; omega
  refine ⟨blk_keep (blk_alloc (blk_below h.bG hb) o) hg (own_ne hoq (blk_alloc (blk_below h.bG hb) o) (by decide)), ho, fun j v r' h1 h2 => ?_, by simp [h.len], ?_⟩
  · by_cases hj : j < k
    · rw [List.getElem?_append_left (by omega)] at h1
      rw [List.getElem?_append_left (by rw [h.len]; omega)] at h2
      exact keep (own_below (h.rows j v r' h1 h2) hb)
    · rw [List.getElem?_append_right (by omega)] at h1
      rw [List.getElem?_append_right (by rw [h.len]; omega)] at h2
      rw [hxl] at h1
      rw [h.len] at h2
      obtain ⟨e1, rfl⟩ : j - k = 0 ∧ vL = v := by
        cases hjk : j - k with
        | zero => rw [hjk] at h1; simpa using h1
        | succ n => rw [hjk] at h1; simp at h1
      rw [e1] at h2
      obtain rfl : r = r' := by simpa using h2
      rw [hr]
      exact keep (own_base hl hB)
  · have hs := hb.size
    have hs2 := h.bel.size
    exact ((h.bel.trans (hb.mono hs2)).alloc (by omega) o).grown hg (by simp; omega) fun b hb2 => by have := (own_typed0 hoq b hb2).1; omega
theorem conf_reads {w : World} {B : Nat} {vO : Value} {xs : List Value} {c : Conf} (own : w.ownsRow B 22 1 vO c.length xs) (rows : ∀ (j : Nat) v r, xs[j]? = some v → c[j]? = some r → w.ownsRow B 3 1 v r.length (icells r)) (hl : c.length ≤ 1000) :
    ∃ A k, vO = .slice A c.length k ∧ c.length ≤ k ∧ kConf.C w A c := by
  rcases own.2 with ⟨rfl, h0⟩ | ⟨g, cap, cur, rfl, _, hb, hc, hm, hs, ht⟩
  · have : c = [] := List.eq_nil_of_length_eq_zero h0
    subst this
    exact ⟨none, 0, rfl, Nat.le_refl _, Kd.C_nil _ _ _⟩
  · refine ⟨_, cap, rfl, hc, by omega, fun _ => ⟨_, rfl, fun j r hj => ?_⟩⟩
    have hjl := (List.getElem?_eq_some_iff.1 hj).1
    have hxl : xs.length = c.length := by have := own.1; omega
    have hx : xs[j]? = some xs[j] := List.getElem?_eq_getElem (by omega)
    refine ⟨[xs[j]], ⟨xs[j], rfl, ints_reads (rows j _ r hx hj)⟩, fun i u hu => ?_⟩
    match i, hu with
    | 0, hu =>
      obtain rfl : xs[j] = u := by simpa using hu
      exact own.cells (g := g) rfl (j * 1 + 0) _ (by rw [Nat.mul_one, Nat.add_zero]; exact hx)
    | i + 1, hu => simp at hu
theorem infoRowInt : (Try.prog.info? 22).map (fun i => (i.zero, i.size, i.bytes)) = some (some nilRow, 1, 24) := by kernel_rfl
theorem valid_row {g : Graph} (h : g.valid = true) {v : Nat} (hv : v < g.ports.length) : (g.ports.getD v []).length ≤ 24 := by
  obtain ⟨⟨_, h2, _⟩, _, _, hok, hnd, _⟩ := (valid_iff g).1 h
  have e : g.ports.getD v [] = g.ports[v] := by simp [List.getD_eq_getElem?_getD, hv]
  rw [e]
  have hsub : (rowEdges (0 + (v : Int)) g.ports[v]).Sublist g.edges := by
    unfold Graph.edges
    have e2 : g.ports = g.ports.take v ++ (g.ports[v] :: g.ports.drop (v + 1)) := by rw [List.getElem_cons_drop, List.take_append_drop]
    rw [show edgesFrom 0 g.ports = edgesFrom 0 (g.ports.take v ++ (g.ports[v] :: g.ports.drop (v + 1))) from by rw [← e2], edgesFrom_append]
    have e3 : ((g.ports.take v).length : Int) = v := by rw [List.length_take]; omega
    rw [e3]
    simp only [edgesFrom]
    exact ((List.sublist_append_left _ _).trans (List.sublist_append_right _ _))
  have hn2 := (hsub.map Edge.key).nodup hnd
  have h3 := List.Nodup.length_le_of_subset hn2 (l₂ := (List.range g.ports.length).map (fun k : Nat => ((0 + (v : Int), (k : Int)) : Int × Int))) fun x hx => by
    obtain ⟨e0, he0, rfl⟩ := List.mem_map.1 hx
    have hk := hok e0 (hsub.subset he0)
    obtain ⟨l, hl, rfl⟩ := List.mem_map.1 he0
    simp only [Edge.ok, decide_eq_true_eq] at hk
    exact List.mem_map.2 ⟨l.to_.toNat, List.mem_range.2 (by omega), by simp [Edge.key]; omega⟩
  simp [rowEdges] at h3
  omega

set_option maxHeartbeats 4000000 in
set_option maxRecDepth 100000 in
theorem config_calls (w : World) (A0 : Option Addr) (c0 : Nat) (A1 : Option Addr) (c1 : Nat) (g : Graph) (hg : IsGraph w A0 c0 A1 c1 g) (hV : g.valid = true) (AV : Option Addr) (cV : Nat) (vars : List Var) (hv : kVar.C w AV vars) (hv1 : vars.length ≤ 100) (hvs : ∀ v ∈ vars, v.Small)
    (AR : Option Addr) (cR : Nat) (raw : List Int) (hr : (Kd.int .i64).C w AR raw) :
    Calls Try.prog 10 #[.agg #[.slice A0 g.ids.length c0, .slice A1 g.ports.length c1], .slice AV vars.length cV, .slice AR raw.length cR] w
      fun e w' => (∃ A c, e = .returned (.slice A (cfg g vars raw).length c) ∧ (cfg g vars raw).length ≤ c ∧ kConf.C w' A (cfg g vars raw)) ∧ Below w.heap.size w w' := by
  obtain ⟨j0, hj0, jz0, jz1, jz2⟩ := info_parts infoInt
  obtain ⟨i0, hi0, iz0, iz1, iz2⟩ := info_parts infoRowInt
  have HV := Lib.hid hV
  obtain ⟨hn1, hn2, hn3⟩ := (valid_iff g).1 hV |>.1
  have hids := ((valid_iff g).1 hV).2.1
  have HIDS : Hid (∀ x ∈ g.ids, 0 ≤ x ∧ x ≤ 255) := fun x hx => by have := hids x hx; simpa [okID] using this
  have HG := Lib.hid hg
  have HVV := Lib.hid hv
  have HVS := Lib.hid hvs
  have HR := Lib.hid hr
  have hrm := Kd.C_max hr
  have HN3 := Lib.hid hn3
  clear hg hv hvs hr hids hV hn3
  go_enter Try.func10, Try.ntmps10
  go_wp2_with fail
  have hb0 := (Below.refl w.heap.size w).alloc (Nat.le_refl _) (.cells #[.slice A0 g.ids.length c0, .slice A1 g.ports.length c1] 27)
  have hg0 := HG.out.below hb0
  have bG : (w.alloc (.cells #[.slice A0 g.ids.length c0, .slice A1 g.ports.length c1] 27)).heap[w.heap.size]? = some (.cells #[.slice A0 g.ids.length c0, .slice A1 g.ports.length c1] 27 (0, 0)) := blk_new rfl
  have hz1 : (w.alloc (.cells #[.slice A0 g.ids.length c0, .slice A1 g.ports.length c1] 27)).heap.size = w.heap.size + 1 := by simp
  generalize w.alloc _ = w1 at hb0 hg0 bG hz1 ⊢
  have HB0 := Lib.hid hb0
  have HG0 := Lib.hid hg0
  have HBG := Lib.hid bG
  have cG0 := blk_cell (j := 0) (v := .slice A0 g.ids.length c0) bG rfl
  have cG1 := blk_cell (j := 1) (v := .slice A1 g.ports.length c1) bG rfl
  clear hb0 hg0 bG
  go_loop [8, 9] (fun a i => ∃ v : Nat, v ≤ g.ports.length ∧ i = .int .i64 v ∧ a = .int .i64 (topOf (g.ids.take v))) (fun _ i => g.ports.length - (intOf i).toNat)
  case atStart => exact ⟨0, Nat.zero_le _, rfl, rfl⟩
  case round =>
    obtain ⟨v, hv, rfl, rfl⟩ := hrel
    by_cases hlt : v < g.ports.length
    · have hvi : v < g.ids.length := by have := HN3.out; omega
      obtain ⟨ad, rfl, hc⟩ := Kd.at_int HG0.out.ids v hvi
      have HT := Lib.hid (topOf_take (ids := g.ids) (k := v) (by have := HN3.out; omega))
      generalize g.ids[v] = y at hc HT
      generalize topOf (g.ids.take v) = t at HT
      go_wp2_with fail
      go_round
      case rel => exact ⟨v + 1, by omega, by go_num, by rw [HT.out]; congr 1; omega⟩
      case measure => simp [intOf]; omega
    · have HT : Hid (g.ids.take v = g.ids) := by unfold Hid; rw [List.take_of_length_le (by have := HN3.out; omega)]
      rw [HT.out]
      have hTb := topOf_bd HIDS.out
      obtain ⟨top, htop⟩ : ∃ t, topOf g.ids = t := ⟨_, rfl⟩
      rw [htop] at hTb ⊢
      have HTOP := Lib.hid htop
      clear htop HT
      have HC0 : Hid (ConfAt w w1 #[.slice A0 g.ids.length c0, .slice A1 g.ports.length c1] (w.heap.size + 1) nilRow 0 [] (cfgRows g vars raw 0)) := ⟨HBG.out, World.ownsRow_nil _ _ _ 1, fun j v r h => by simp at h, rfl, HB0.out⟩
      clear cG0 cG1
      go_wp2_with fail
      go_loopw [10, 11] (fun o i wr => ∃ (v : Nat) (vO : Value) (xs : List Value), v ≤ g.ports.length ∧ i = .int .i64 v ∧ o = vO ∧ ConfAt w wr #[.slice A0 g.ids.length c0, .slice A1 g.ports.length c1] (w.heap.size + 1) vO v xs (cfgRows g vars raw v)) (fun _ i _ => g.ports.length - (intOf i).toNat)
      case atStart => exact ⟨0, nilRow, [], Nat.zero_le _, rfl, rfl, HC0.out⟩
      case round =>
        obtain ⟨v, vO, xs, hv, rfl, rfl, hC⟩ := hrel
        have HC := Lib.hid hC
        clear hC HC0
        by_cases hlt : v < g.ports.length
        · obtain ⟨wv, rfl⟩ : ∃ wv : World, wv = wr := ⟨_, rfl⟩
          go_wp2_with fail
          go_loopw [12, 13] (fun l i wq => ∃ (k : Nat) (vL : Value), k ≤ vars.length ∧ i = .int .i64 k ∧ l = vL ∧ wq.ownsRow wv.heap.size 3 1 vL k (icells (cfgTo g vars raw v k)) ∧ Below wv.heap.size wv wq) (fun _ i _ => vars.length - (intOf i).toNat)
          case atStart => exact ⟨0, nilRow, Nat.zero_le _, rfl, rfl, World.ownsRow_nil _ _ _ 1, Below.refl _ _⟩
          case round =>
            obtain ⟨wq, rfl⟩ : ∃ wq : World, wq = wr := ⟨_, rfl⟩
            obtain ⟨k, vL, hk, rfl, rfl, hown, hbl⟩ := hrel
            have HOWN := Lib.hid hown
            have HBL := Lib.hid hbl
            have hzq := hbl.size
            have cG1 := blk_cell (j := 1) (v := .slice A1 g.ports.length c1) (blk_below HC.out.bG hbl) rfl
            clear hown hbl
            by_cases hkl : k < vars.length
            · have hbw := HC.out.bel.trans (HBL.out.mono HC.out.bel.size)
              obtain ⟨adv, rfl, ck, cl, ch, cn, cp⟩ := at_var (Kd.C_below HVV.out hbw) k hkl
              obtain ⟨adp, AP, cP, rfl, cRow, hPl, _⟩ := Kd.at_slice (HG.out.below hbw).ports v hlt
              have hsm := HVS.out vars[k] (List.getElem_mem hkl)
              have HX : Hid (vars.getD k ⟨default, 0, 0, 0, 0, 0⟩ = vars[k]) := by unfold Hid; simp [List.getD_eq_getElem?_getD, hkl]
              have HP : Hid (g.ports.getD v [] = g.ports[v]) := by unfold Hid; simp [List.getD_eq_getElem?_getD, hlt]
              have HD : Hid (g.ports.getD v [] = g.ports[v]) := by unfold Hid; simp [List.getD_eq_getElem?_getD, hlt]
              have HRd := Lib.hid (Kd.C_below HR.out hbw)
              generalize vars[k] = x at ck cl ch cn cp hsm HX
              generalize g.ports[v] = pr at cRow hPl HD HP
              obtain ⟨p1, hp1⟩ : ∃ p, x.pn * (g.ports.length : Int) = p := ⟨_, rfl⟩
              obtain ⟨p2, hp2⟩ : ∃ p, x.pid * top = p := ⟨_, rfl⟩
              have b1 : 0 ≤ p1 ∧ p1 ≤ 2400 := by
                rw [← hp1]
                refine ⟨Int.mul_nonneg hsm.pn.1 (by omega), ?_⟩
                have := Int.mul_le_mul hsm.pn.2 (show (g.ports.length : Int) ≤ 24 by omega) (by omega) (by omega)
                omega
              have b2 : 0 ≤ p2 ∧ p2 ≤ 25500 := by
                rw [← hp2]
                refine ⟨Int.mul_nonneg hsm.pid.1 hTb.1, ?_⟩
                have := Int.mul_le_mul hsm.pid.2 hTb.2 hTb.1 (by omega)
                omega
              obtain ⟨s1, s2, s3, s4⟩ := hsm
              obtain ⟨p3, hp3⟩ : ∃ p : Nat, (v : Int) * (vars.length : Int) = p := ⟨v * vars.length, by simp⟩
              have b3 : p3 ≤ 2400 := by
                have e : v * vars.length = p3 := by exact_mod_cast hp3
                have := Nat.mul_le_mul (show v ≤ 24 by omega) hv1
                omega
              have HCELL : Hid (∀ lo hi : Int, lo = x.lo' → hi = x.hi' g.ports.length top pr.length → cfgCell g vars raw v k = lo + within (at0 raw ((p3 : Int) + (k : Int))) (hi - lo + 1)) := by
                rintro lo hi rfl rfl
                have e : v * vars.length = p3 := by exact_mod_cast hp3
                unfold cfgCell
                simp only [HX.out, HD.out, HTOP.out, e]
                rfl
              clear hbw
              go_wp2_with fail
              have q1 : IntKind.i64.wrap p1 = p1 := IntWalk.i64_in _ (by omega)
              have q2 : IntKind.i64.wrap p2 = p2 := IntWalk.i64_in _ (by omega)
              have q3 : IntKind.i64.wrap (x.hi + p1) = x.hi + p1 := IntWalk.i64_in _ (by omega)
              have q4 : IntKind.i64.wrap (x.hi + p1 + p2) = x.hi + p1 + p2 := IntWalk.i64_in _ (by omega)
              have k1 : (k : Int) < (vars.length : Int) := by omega
              have k2 : (0 : Int) ≤ (k : Int) := by omega
              go_quiet (fail)
              clear HX HD HTOP
              by_cases e2 : x.kind = 2
              · have t2 : (x.kind == 2) = true := by simp [e2]
                have L2 := Lib.hid e2
                clear e2
                have HLO : Hid (cfgCell g vars raw v k = 0 + within (at0 raw ((p3 : Int) + (k : Int))) (2)) := (HCELL.out _ _ (by unfold Var.lo'; rw [if_pos L2.out]) (by unfold Var.hi'; rw [if_pos L2.out])).trans (by first | rfl | (congr 2; omega))
                clear q1 q2 q3 q4
                go_wp2_with fail
                generalize hwz : World.drewN wq _ = wz
                have hwh : wz.heap = wq.heap := by rw [← hwz]; rfl
                have HOZ := Lib.hid (own_heap HOWN.out hwh)
                have HBZ : Hid (Below wv.heap.size wv wz) := by unfold Hid; rw [← hwz]; exact below_drewN HBL.out _
                have HRZ : Hid ((Kd.int .i64).C wz AR raw) := Kd.C_keep HRd.out (fun j _ => by rw [hwh])
                clear hwz hwh
                have hzz := HBZ.out.size
                refine (at_calls _ _ _ raw HRZ.out _ (by omega)).mono ?_
                rintro e w3 ⟨rfl, rfl⟩
                generalize at0 raw ((p3 : Int) + (k : Int)) = y at HLO
                go_wp2_with fail
                refine (within_calls _ _ _ (by omega)).mono ?_
                rintro e w4 ⟨rfl, rfl⟩
                have hle := within_le (v := y) (m := 2) (by omega)
                generalize within y (2) = z at hle HLO
                go_wp2_with (at_builtin; go_must (refine wpList_append_own_at _ rfl _ _ 22 rfl wv.heap.size 3 j0 _ 1 8 Try.underlying22 hj0 jz0 jz1 jz2 rfl (by decide) _ _ _ rfl (HOZ.out.alloc _) ⟨wz.heap.size, 0, none⟩ 1 1 [.int .i64 z] rfl rfl (cell_one_new _ _ _) (ints_oneCell .i64 [z]) (by unfold maxLen; omega) (by omega) (by simp; omega) ?_); intro v2 w5 hown5 hgr5 hnil5 hat5)
                go_roundw
                case rel =>
                  refine ⟨k + 1, v2, by omega, by go_num, rfl, ?_, ?_⟩
                  · rw [cfgTo_step, HLO.out, Int.zero_add]
                    simpa [icells] using hown5
                  · exact (HBZ.out.alloc hzz _).grown hgr5 (by simp; omega) fun b hb => (own_typed0 HOZ.out b hb).1
                case measure => simp [intOf]; omega
              · have t2 : (x.kind == 2) = false := by simp [e2]
                have L2 := Lib.hid e2
                clear e2
                by_cases e3 : x.kind = 3
                · have t3 : (x.kind == 3) = true := by simp [e3]
                  have L3 := Lib.hid e3
                  have hrl := valid_row HV.out hlt
                  rw [HP.out] at hrl
                  clear e3
                  have HLO : Hid (cfgCell g vars raw v k = -1 + within (at0 raw ((p3 : Int) + (k : Int))) ((pr.length : Int) + 1)) := (HCELL.out _ _ (by unfold Var.lo'; rw [if_neg L2.out, if_pos L3.out]) (by unfold Var.hi'; rw [if_neg L2.out, if_pos L3.out])).trans (by first | rfl | (congr 2; omega))
                  clear q1 q2 q3 q4
                  go_wp2_with fail
                  have q5 : IntKind.i64.wrap ((pr.length : Int) - 1) = (pr.length : Int) - 1 := IntWalk.i64_in _ (by omega)
                  have k3 : (v : Int) < (g.ports.length : Int) := by omega
                  have k4 : (0 : Int) ≤ (v : Int) := by omega
                  go_quiet (fail)
                  rename_i nq2
                  clear q5
                  go_wp2_with fail
                  generalize hwz : World.drewN wq _ = wz
                  have hwh : wz.heap = wq.heap := by rw [← hwz]; rfl
                  have HOZ := Lib.hid (own_heap HOWN.out hwh)
                  have HBZ : Hid (Below wv.heap.size wv wz) := by unfold Hid; rw [← hwz]; exact below_drewN HBL.out _
                  have HRZ : Hid ((Kd.int .i64).C wz AR raw) := Kd.C_keep HRd.out (fun j _ => by rw [hwh])
                  clear hwz hwh
                  have hzz := HBZ.out.size
                  refine (at_calls _ _ _ raw HRZ.out _ (by omega)).mono ?_
                  rintro e w3 ⟨rfl, rfl⟩
                  generalize at0 raw ((p3 : Int) + (k : Int)) = y at HLO
                  go_wp2_with fail
                  refine (within_calls _ _ _ (by omega)).mono ?_
                  rintro e w4 ⟨rfl, rfl⟩
                  have hle := within_le (v := y) (m := (pr.length : Int) + 1) (by omega)
                  generalize within y ((pr.length : Int) + 1) = z at hle HLO
                  go_wp2_with (at_builtin; go_must (refine wpList_append_own_at _ rfl _ _ 22 rfl wv.heap.size 3 j0 _ 1 8 Try.underlying22 hj0 jz0 jz1 jz2 rfl (by decide) _ _ _ rfl (HOZ.out.alloc _) ⟨wz.heap.size, 0, none⟩ 1 1 [.int .i64 (-1 + z)] rfl rfl (cell_one_new _ _ _) (ints_oneCell .i64 [-1 + z]) (by unfold maxLen; omega) (by omega) (by simp; omega) ?_); intro v2 w5 hown5 hgr5 hnil5 hat5)
                  go_roundw
                  case rel =>
                    refine ⟨k + 1, v2, by omega, by go_num, rfl, ?_, ?_⟩
                    · rw [cfgTo_step, HLO.out]
                      simpa [icells] using hown5
                    · exact (HBZ.out.alloc hzz _).grown hgr5 (by simp; omega) fun b hb => (own_typed0 HOZ.out b hb).1
                  case measure => simp [intOf]; omega
                · have t3 : (x.kind == 3) = false := by simp [e3]
                  have L3 := Lib.hid e3
                  clear e3
                  have HLO : Hid (cfgCell g vars raw v k = x.lo + within (at0 raw ((p3 : Int) + (k : Int))) (x.hi + p1 + p2 - x.lo + 1)) := (HCELL.out _ _ (by unfold Var.lo'; rw [if_neg L2.out, if_neg L3.out]) (by unfold Var.hi'; rw [if_neg L2.out, if_neg L3.out, hp1, hp2])).trans (by first | rfl | (congr 2; omega))
                  clear q1 q2 q3 q4
                  go_wp2_with fail
                  generalize hwz : World.drewN wq _ = wz
                  have hwh : wz.heap = wq.heap := by rw [← hwz]; rfl
                  have HOZ := Lib.hid (own_heap HOWN.out hwh)
                  have HBZ : Hid (Below wv.heap.size wv wz) := by unfold Hid; rw [← hwz]; exact below_drewN HBL.out _
                  have HRZ : Hid ((Kd.int .i64).C wz AR raw) := Kd.C_keep HRd.out (fun j _ => by rw [hwh])
                  clear hwz hwh
                  have hzz := HBZ.out.size
                  refine (at_calls _ _ _ raw HRZ.out _ (by omega)).mono ?_
                  rintro e w3 ⟨rfl, rfl⟩
                  generalize at0 raw ((p3 : Int) + (k : Int)) = y at HLO
                  go_wp2_with fail
                  refine (within_calls _ _ _ (by omega)).mono ?_
                  rintro e w4 ⟨rfl, rfl⟩
                  have hle := within_le (v := y) (m := x.hi + p1 + p2 - x.lo + 1) (by omega)
                  generalize within y (x.hi + p1 + p2 - x.lo + 1) = z at hle HLO
                  go_wp2_with (at_builtin; go_must (refine wpList_append_own_at _ rfl _ _ 22 rfl wv.heap.size 3 j0 _ 1 8 Try.underlying22 hj0 jz0 jz1 jz2 rfl (by decide) _ _ _ rfl (HOZ.out.alloc _) ⟨wz.heap.size, 0, none⟩ 1 1 [.int .i64 (x.lo + z)] rfl rfl (cell_one_new _ _ _) (ints_oneCell .i64 [x.lo + z]) (by unfold maxLen; omega) (by omega) (by simp; omega) ?_); intro v2 w5 hown5 hgr5 hnil5 hat5)
                  go_roundw
                  case rel =>
                    refine ⟨k + 1, v2, by omega, by go_num, rfl, ?_, ?_⟩
                    · rw [cfgTo_step, HLO.out]
                      simpa [icells] using hown5
                    · exact (HBZ.out.alloc hzz _).grown hgr5 (by simp; omega) fun b hb => (own_typed0 HOZ.out b hb).1
                  case measure => simp [intOf]; omega
            · have HE : Hid (k = vars.length) := by unfold Hid; omega
              have hzc := HC.out.bel.size
              obtain ⟨AL, cL, hvL, hlL, _⟩ := ints_reads (xs := cfgTo g vars raw v k) (by rw [cfgTo_len]; exact HOWN.out)
              rw [cfgTo_len] at hvL hlL
              subst hvL
              have HOO := Lib.hid (own_below HC.out.own HBL.out)
              go_wp2_with (at_builtin; go_must (refine wpList_append_own_at _ rfl _ _ 29 rfl (w.heap.size + 1) 22 i0 _ 1 24 Try.underlying29 hi0 iz0 iz1 iz2 rfl (by decide) _ _ _ rfl (HOO.out.alloc _) ⟨wq.heap.size, 0, none⟩ 1 1 [.slice AL k cL] rfl rfl (cell_one_new _ _ _) (fun u hu => by rw [List.mem_singleton.1 hu]; rfl) (by unfold maxLen; omega) (by omega) (by simp; omega) ?_); intro v2 w5 hown5 hgr5 hnil5 hat5)
              go_roundw
              case rel =>
                refine ⟨v + 1, v2, xs ++ [.slice AL k cL], by omega, by go_num, rfl, ?_⟩
                rw [cfgRows_step, ← HE.out]
                exact HC.out.step HBL.out (cfgTo_len _ _ _ _ _) HOWN.out hown5 hgr5 (blk_lt HC.out.bG) (Nat.le_succ _)
              case measure => simp [intOf]; omega
        · have HE : Hid (v = g.ports.length) := by unfold Hid; omega
          have hl : (cfgRows g vars raw v).length = v := cfgRows_len _ _ _ _
          obtain ⟨A, cc, rfl, hlc, hCC⟩ := conf_reads (c := cfgRows g vars raw v) (by rw [hl]; exact HC.out.own) HC.out.rows (by rw [hl]; omega)
          have HCC := Lib.hid hCC
          clear hCC
          rw [hl] at hlc ⊢
          go_wp2_with fail
          go_ret
          have HCF : cfg g vars raw = cfgRows g vars raw v := by unfold cfg; rw [HE.out]
          rw [HCF, hl]
          exact ⟨⟨A, cc, rfl, hlc, HCC.out⟩, HC.out.bel⟩
end Go.Proofs.Ythapikakneikbaa
