/-
  An argument that came in reads as plain data: integers, bools, slices, links, graphs, nets.
-/
import Derived.Test.YthapikakneikbaaAny
import Derived.Test.YthapikakneikbaaShape
import Derived.ProofKit
import Derived.OpenShut
import Derived.ChangeOld
import Derived.Below
import Derived.Deep.Slices
namespace Go.Proofs.Ythapikakneikbaa
open Go.RowKit Go.WideShapes Go.ChangeShapes

/-- Whatever reads as data of type t is of kind d. -/
def Opens {α : Type} (t : TypeId) (d : Kd α) : Prop := ∀ (H : Type) (enc : TypeId × Value → H) (W : World) (base : Nat) (spare : Nat → Bool) (held : Bool) (fuel : Nat) (cs : List Value) (x : DataW H × List MemPlace),
  DataW.trod enc Try.prog W base spare held fuel t cs = some x → ∃ a : α, d.K W a cs
theorem opens_int {t : TypeId} {k : IntKind} (ht : Try.prog.underlying t = some (.int k)) : Opens t (Kd.int k) := fun H enc W base spare held fuel cs x h => by
  obtain ⟨n, rfl, _⟩ := DataW.trod_int ht h
  exact ⟨n, rfl⟩
theorem opens_bool {t : TypeId} (ht : Try.prog.underlying t = some .bool) : Opens t Kd.bool := fun H enc W base spare held fuel cs x h => by
  obtain ⟨n, rfl, _⟩ := DataW.trod_bool ht h
  exact ⟨n, rfl⟩
theorem opens_slice {α : Type} {t e : TypeId} {d : Kd α} (ht : Try.prog.underlying t = some (.slice e)) (he : Try.prog.cellsOf e = d.sz) (ho : Opens e d) : Opens t d.slice := fun H enc W base spare held fuel cs x h => by
  rcases Go.Deep.open_slice ht h with ⟨rfl, _⟩ | ⟨a, len, cap, m, n, D, Pl, rfl, _, hl, hm, hmm, _, hx⟩
  · exact ⟨[], _, rfl, none, 0, rfl, Nat.le_refl _, Kd.C_nil _ _ _⟩
  · have hlm : len ≤ m := by rw [hmm]; split <;> omega
    rw [he] at hx
    have each : ∀ i, i < len → ∃ (y : α) (c : List Value), d.K W y c ∧ ∀ (j : Nat) u, c[j]? = some u → W.cell? (a.add (i * d.sz + j)) = some u := fun i hi => by
      obtain ⟨cs', h1, h2⟩ := hx i (by omega)
      obtain ⟨y, hy⟩ := ho _ _ _ _ _ _ _ _ _ h2
      obtain ⟨_, hlen, hcell⟩ := World.cells?_some h1
      refine ⟨y, cs', hy, fun j u hu => ?_⟩
      have hj := (List.getElem?_eq_some_iff.1 hu).1
      rw [← Go.Deep.add_add, hcell j (by omega), hu]
    have mk : ∀ k, k ≤ len → ∃ ys : List α, ys.length = k ∧ ∀ (i : Nat) y, ys[i]? = some y → ∃ c, d.K W y c ∧ ∀ (j : Nat) u, c[j]? = some u → W.cell? (a.add (i * d.sz + j)) = some u := fun k => by
      induction k with
      | zero => exact fun _ => ⟨[], rfl, fun i y h => by simp at h⟩
      | succ k ih =>
        intro hk
        obtain ⟨ys, h1, h2⟩ := ih (by omega)
        obtain ⟨y, c, h3, h4⟩ := each k (by omega)
        refine ⟨ys ++ [y], by simp [h1], fun i z hz => ?_⟩
        by_cases hi : i < k
        · rw [List.getElem?_append_left (by omega)] at hz
          exact h2 i z hz
        · rw [List.getElem?_append_right (by omega), h1] at hz
          cases hik : i - k with
          | succ q => rw [hik] at hz; simp at hz
          | zero =>
            rw [hik] at hz
            obtain rfl : y = z := by simpa using hz
            obtain rfl : i = k := by omega
            exact ⟨c, h3, h4⟩
    obtain ⟨ys, h1, h2⟩ := mk len (Nat.le_refl _)
    subst h1
    exact ⟨ys, _, rfl, some a, cap, rfl, hl, by unfold maxLen at hm; omega, fun _ => ⟨a, rfl, h2⟩⟩
/-- A struct's fields. -/
theorem opens_fields {H : Type} {enc : TypeId × Value → H} {W : World} {base : Nat} {spare : Nat → Bool} {held : Bool} {fuel : Nat} {cs : List Value} {x : DataW H × List MemPlace} {t : TypeId} {fs : Array Field} (ht : Try.prog.underlying t = some (.struct fs)) (h : DataW.trod enc Try.prog W base spare held fuel t cs = some x) :
    cs.length = Try.prog.cellsOf t ∧ ∀ (i : Nat) (f : Field) (α : Type) (d : Kd α) (T : TypeId) (o n : Nat), fs[i]? = some f → f.type = T → f.offset = o → Try.prog.cellsOf T = n → Opens T d → ∃ a : α, d.K W a ((cs.drop o).take n) := by
  obtain ⟨xs, n, _, _, hl, hxl, hf⟩ := DataW.trod_struct ht h
  refine ⟨hl, fun i f α d T o m hi hT ho2 hm ho => ?_⟩
  subst hT ho2 hm
  have h1 := hf i f hi
  have hil := (Array.getElem?_eq_some_iff.1 hi).1
  rw [List.getElem?_eq_getElem (by rw [hxl]; exact hil)] at h1
  exact ho _ _ _ _ _ _ _ _ _ h1
theorem opens_ints : Opens 22 (Kd.int .i64).slice := opens_slice Try.underlying22 (by kernel_rfl) (opens_int Try.underlying3)
theorem opens_conf : Opens 29 kConf.slice := opens_slice Try.underlying29 (by kernel_rfl) opens_ints
theorem opens_link : Opens 60 kLink := fun H enc W base spare held fuel cs x h => by
  obtain ⟨hl, hf⟩ := opens_fields Try.underlying60 h
  obtain ⟨a, ha⟩ := hf 0 _ _ (Kd.int .i64) _ 0 1 rfl rfl rfl (by kernel_rfl) (opens_int Try.underlying3)
  obtain ⟨b, hb⟩ := hf 1 _ _ (Kd.int .i64) _ 1 1 rfl rfl rfl (by kernel_rfl) (opens_int Try.underlying3)
  have c2 : Try.prog.cellsOf 60 = 2 := by kernel_rfl
  rw [c2] at hl
  match cs, hl with
  | [u, v], _ =>
    obtain rfl : u = .int .i64 a := by have h : [u] = [Value.int .i64 a] := ha; simpa using h
    obtain rfl : v = .int .i64 b := by have h : [v] = [Value.int .i64 b] := hb; simpa using h
    exact ⟨⟨a, b⟩, [.int .i64 a], [.int .i64 b], rfl, rfl, rfl⟩
theorem opens_row : Opens 52 kLink.slice := opens_slice Try.underlying52 (by kernel_rfl) opens_link
theorem opens_ports : Opens 25 kLink.slice.slice := opens_slice Try.underlying25 (by kernel_rfl) opens_row
section
variable {H : Type} {enc : TypeId × Value → H} {W : World} {base b0 : Nat} {spare : Nat → Bool} {held : Bool} {r : Reach} {v : Value} {d : DataW H} {p : List MemPlace}
theorem one_slice {α : Type} {k : Kd α} {u : Value} {a : List α} (h : k.slice.K W a [u]) : k.SL W u a := by
  obtain ⟨v, e, hs⟩ := h
  obtain rfl : u = v := by simpa using e
  exact hs
/-- A graph that came in. -/
theorem open_graph (hv : Value.okWide Try.prog W r b0 27 v) (h : DataW.Trod enc Try.prog W base spare held 27 v d p) :
    ∃ (g : Graph) (A0 : Option Addr) (c0 : Nat) (A1 : Option Addr) (c1 : Nat), v = .agg #[.slice A0 g.ids.length c0, .slice A1 g.ports.length c1] ∧ IsGraph W A0 c0 A1 c1 g := by
  obtain ⟨cs, rfl, hsz⟩ := okWide_struct Try.underlying27 hv
  obtain ⟨l⟩ := cs
  obtain ⟨fuel, hf⟩ := h
  obtain ⟨hl, hg⟩ := opens_fields Try.underlying27 hf
  obtain ⟨ids, h0⟩ := hg 0 _ _ (Kd.int .i64).slice _ 0 1 rfl rfl rfl (by kernel_rfl) opens_ints
  obtain ⟨ports, h1⟩ := hg 1 _ _ kLink.slice.slice _ 1 1 rfl rfl rfl (by kernel_rfl) opens_ports
  have c3 : Try.prog.cellsOf 27 = 2 := by kernel_rfl
  rw [c3] at hl
  have hl' : l.length = 2 := hl
  match l, hl' with
  | [u0, u1], _ =>
    obtain ⟨A0, k0, rfl, m0, q0⟩ := one_slice (u := u0) h0
    obtain ⟨A1, k1, rfl, m1, q1⟩ := one_slice (u := u1) h1
    exact ⟨⟨ids, ports⟩, A0, k0, A1, k1, rfl, ⟨q0, m0, q1, m1⟩⟩
/-- A net that came in. -/
theorem open_net (hv : Value.okWide Try.prog W r b0 24 v) (h : DataW.Trod enc Try.prog W base spare held 24 v d p) :
    ∃ (x : Net) (AL AW AI : Option Addr) (cL cW cI : Nat), v = .agg #[.int .i64 x.N, .slice AL x.links.length cL, .slice AW x.weights.length cW, .slice AI x.ids.length cI, .bool x.ap, .bool x.back] ∧ x.In W AL AW AI := by
  obtain ⟨cs, rfl, hsz⟩ := okWide_struct Try.underlying24 hv
  obtain ⟨l⟩ := cs
  obtain ⟨fuel, hf⟩ := h
  obtain ⟨hl, hg⟩ := opens_fields Try.underlying24 hf
  obtain ⟨N, h0⟩ := hg 0 _ _ (Kd.int .i64) _ 0 1 rfl rfl rfl (by kernel_rfl) (opens_int Try.underlying3)
  obtain ⟨links, h1⟩ := hg 1 _ _ (Kd.int .i64).slice _ 1 1 rfl rfl rfl (by kernel_rfl) opens_ints
  obtain ⟨weights, h2⟩ := hg 2 _ _ (Kd.int .i64).slice _ 2 1 rfl rfl rfl (by kernel_rfl) opens_ints
  obtain ⟨ids, h3⟩ := hg 3 _ _ (Kd.int .i64).slice _ 3 1 rfl rfl rfl (by kernel_rfl) opens_ints
  obtain ⟨ap, h4⟩ := hg 4 _ _ Kd.bool _ 4 1 rfl rfl rfl (by kernel_rfl) (opens_bool Try.underlying4)
  obtain ⟨back, h5⟩ := hg 5 _ _ Kd.bool _ 5 1 rfl rfl rfl (by kernel_rfl) (opens_bool Try.underlying4)
  have c3 : Try.prog.cellsOf 24 = 6 := by kernel_rfl
  rw [c3] at hl
  have hl' : l.length = 6 := hl
  match l, hl' with
  | [u0, u1, u2, u3, u4, u5], _ =>
    obtain rfl : u0 = .int .i64 N := by have h : [u0] = [Value.int .i64 N] := h0; simpa using h
    obtain ⟨A1, k1, rfl, m1, q1⟩ := one_slice (u := u1) h1
    obtain ⟨A2, k2, rfl, m2, q2⟩ := one_slice (u := u2) h2
    obtain ⟨A3, k3, rfl, m3, q3⟩ := one_slice (u := u3) h3
    obtain rfl : u4 = .bool ap := by have h : [u4] = [Value.bool ap] := h4; simpa using h
    obtain rfl : u5 = .bool back := by have h : [u5] = [Value.bool back] := h5; simpa using h
    exact ⟨⟨N, links, weights, ids, ap, back⟩, A1, A2, A3, k1, k2, k3, rfl, ⟨q1, q2, q3⟩⟩
/-- A list of numbers, a configuration that came in. -/
theorem open_list {t : TypeId} {α : Type} {k : Kd α} (ho : Opens t k.slice) (ht : ∃ e, Try.prog.underlying t = some (.slice e)) (hv : Value.okWide Try.prog W r b0 t v) (h : DataW.Trod enc Try.prog W base spare held t v d p) : ∃ xs, k.SL W v xs := by
  obtain ⟨e, ht⟩ := ht
  obtain ⟨a, len, cap, rfl⟩ := okWide_slice ht hv
  obtain ⟨fuel, hf⟩ := h
  obtain ⟨xs, hx⟩ := ho _ _ _ _ _ _ _ _ _ hf
  exact ⟨xs, one_slice hx⟩
end
end Go.Proofs.Ythapikakneikbaa
