/-
  Words for memory, for all walks of this seat: rows of elements that are read (Kd, Kd.C), facts that do not depend on some blocks (Dep), rows of the call's own.
-/
import Derived.Test.YthapikakneikbaaProg
import Derived.WalkKit
import Derived.KernelRfl
import Derived.Deep.LoopGhost
import Derived.Deep.QuietTactic
import Derived.BigQuiet
import Derived.WalkSpells
import Derived.Laws.Rows
import Derived.Deep.Draws
import Derived.Maps.AppendAt
import Derived.Deep.DeepCutAuto
import Derived.Lib.Hide
namespace Go.Proofs.Ythapikakneikbaa
open Go.RowKit

/-! ### Worlds -/
/-- w' has all blocks of w. -/
def Keeps (w w' : World) : Prop := ∀ k, k < w.heap.size → w'.heap[k]? = w.heap[k]?
theorem keeps_of {w w' : World} (h : Below w.heap.size w w') : Keeps w w' := fun k hk => h.block k hk
theorem cell_keeps {w w1 : World} (h : Keeps w w1) {a : Addr} {v : Value} (hc : w.cell? a = some v) : w1.cell? a = some v :=
  (World.cell?_of_block (w := w) (h _ (World.block_lt_of_cell? w a hc))).trans hc
theorem bcell {B : Nat} {W w1 : World} (hb : Below B W w1) : (∀ b o, b < B → w1.cell? ⟨b, o, none⟩ = W.cell? ⟨b, o, none⟩) ∧ (∀ b o, b < B → w1.frozen? ⟨b, o, none⟩ = W.frozen? ⟨b, o, none⟩) :=
  ⟨fun b o h => hb.cell (p := ⟨b, o, none⟩) h, fun b o h => hb.frozen (p := ⟨b, o, none⟩) h⟩
theorem below_drewN {B : Nat} {w W : World} (h : Below B w W) (n : Nat) : Below B w (W.drewN n) := ⟨h.os, h.tape, h.output, h.size, h.block⟩
theorem below_then {B : Nat} {w w1 w2 : World} (h : Below B w w1) (hB : B ≤ w1.heap.size) (k : Below w1.heap.size w1 w2) : Below B w w2 := h.trans (k.mono hB)
theorem below_up {B : Nat} {w w' : World} (h : Below B w w') (hB : w.heap.size ≤ B) : Below w.heap.size w w' := h.mono hB

/-- P holds in every world that has w's blocks, those of 'no' apart. -/
def Dep (P : World → Prop) (w : World) (no : Nat → Prop) : Prop := ∀ w', (∀ k, k < w.heap.size → ¬ no k → w'.heap[k]? = w.heap[k]?) → P w'
theorem Dep.now {P : World → Prop} {w : World} {no : Nat → Prop} (h : Dep P w no) : P w := h w fun _ _ _ => rfl
theorem Dep.less {P : World → Prop} {w : World} {no no' : Nat → Prop} (h : Dep P w no) (hn : ∀ k, k < w.heap.size → no' k → no k) : Dep P w no' := fun w' hw => h w' fun k hk hno => hw k hk fun h' => hno (hn k hk h')
/-- Blocks of 'no' have been written, and new blocks laid: of these, too, nothing is asked. -/
theorem Dep.step {P : World → Prop} {w w1 : World} {no no' : Nat → Prop} (h : Dep P w no) (hs : w.heap.size ≤ w1.heap.size) (hw : ∀ k, k < w.heap.size → ¬ no k → w1.heap[k]? = w.heap[k]?)
    (hn : ∀ k, k < w.heap.size → no' k → no k) : Dep P w1 no' := fun w' h' => h w' fun k hk hno => (h' k (by omega) (fun h2 => hno (hn k hk h2))).trans (hw k hk hno)
theorem Dep.keep {P : World → Prop} {w w1 : World} {no : Nat → Prop} (h : Dep P w no) (hs : w.heap.size ≤ w1.heap.size) (hw : ∀ k, k < w.heap.size → ¬ no k → w1.heap[k]? = w.heap[k]?) : Dep P w1 no := h.step hs hw fun _ _ h => h
theorem Dep.below {P : World → Prop} {w w1 : World} {no : Nat → Prop} (h : Dep P w no) (hb : Below w.heap.size w w1) : Dep P w1 no := h.keep hb.size fun k hk _ => hb.block k hk
theorem Dep.imp {P Q : World → Prop} {w : World} {no : Nat → Prop} (h : Dep P w no) (hi : ∀ w', P w' → Q w') : Dep Q w no := fun w' hw => hi _ (h w' hw)
theorem Dep.of_keeps {P : World → Prop} {w : World} (hk : ∀ w', Keeps w w' → P w') : Dep P w (fun _ => False) := fun w' hw => hk w' fun k hlt => hw k hlt id

/-! ### Kinds of elements -/
/-- What an element's cells say. -/
structure Kd (α : Type) where
  sz : Nat
  K : World → α → List Value → Prop
  len : ∀ {w x cs}, K w x cs → cs.length = sz
  one : ∀ {w x cs}, K w x cs → ∀ u ∈ cs, u.oneCell' = true
  keep : ∀ {w w' x cs}, Keeps w w' → K w x cs → K w' x cs

namespace Kd
/-- A row of elements that is read: the address, and what is read. -/
def C {α : Type} (d : Kd α) (w : World) (A : Option Addr) (xs : List α) : Prop :=
  xs.length ≤ 9223372036854775807 ∧ (0 < xs.length → ∃ ad, A = some ad ∧ ∀ (j : Nat) x, xs[j]? = some x → ∃ c, d.K w x c ∧ ∀ (i : Nat) u, c[i]? = some u → w.cell? (ad.add (j * d.sz + i)) = some u)
/-- A slice's value reads as a list. -/
def SL {α : Type} (d : Kd α) (w : World) (v : Value) (xs : List α) : Prop := ∃ A c, v = .slice A xs.length c ∧ xs.length ≤ c ∧ d.C w A xs
section
variable {α : Type} {d : Kd α} {w w1 : World} {A : Option Addr} {xs : List α} {v : Value}
theorem C_keep (h : d.C w A xs) (hk : Keeps w w1) : d.C w1 A xs := ⟨h.1, fun hn => by
  obtain ⟨ad, e, hc⟩ := h.2 hn
  refine ⟨ad, e, fun j x hj => ?_⟩
  obtain ⟨c, hK, hcell⟩ := hc j x hj
  exact ⟨c, d.keep hk hK, fun i u hu => cell_keeps hk (hcell i u hu)⟩⟩
theorem C_below (h : d.C w A xs) (hb : Below w.heap.size w w1) : d.C w1 A xs := C_keep h (keeps_of hb)
theorem SL_keep (h : d.SL w v xs) (hk : Keeps w w1) : d.SL w1 v xs := by
  obtain ⟨A, c, e, hl, hc⟩ := h
  exact ⟨A, c, e, hl, C_keep hc hk⟩
theorem SL_below (h : d.SL w v xs) (hb : Below w.heap.size w w1) : d.SL w1 v xs := SL_keep h (keeps_of hb)
theorem C_nil (d : Kd α) (w : World) (A : Option Addr) : d.C w A [] := ⟨by simp, fun h => absurd h (Nat.lt_irrefl 0)⟩
theorem C_max (h : d.C w A xs) : xs.length ≤ 9223372036854775807 := h.1
/-- The element at a place. -/
theorem C_at (h : d.C w A xs) (j : Nat) (hj : j < xs.length) : ∃ ad c, A = some ad ∧ d.K w xs[j] c ∧ ∀ (i : Nat) u, c[i]? = some u → w.cell? (ad.add (j * d.sz + i)) = some u := by
  obtain ⟨ad, e, hc⟩ := h.2 (by omega)
  obtain ⟨c, hK, hcell⟩ := hc j _ (List.getElem?_eq_getElem hj)
  exact ⟨ad, c, e, hK, hcell⟩
end

def scalar {α : Type} (enc : α → Value) (h1 : ∀ x, (enc x).oneCell' = true) : Kd α where
  sz := 1
  K := fun _ x cs => cs = [enc x]
  len := fun h => by rw [h]; rfl
  one := fun h u hu => by rw [h] at hu; rw [List.mem_singleton.1 hu]; exact h1 _
  keep := fun _ h => h
def int (k : IntKind) : Kd Int := scalar (Value.int k) (fun _ => rfl)
def bool : Kd Bool := scalar Value.bool (fun _ => rfl)
def str : Kd ByteArray := scalar Value.string (fun _ => rfl)
def slice {α : Type} (d : Kd α) : Kd (List α) where
  sz := 1
  K := fun w xs cs => ∃ v, cs = [v] ∧ d.SL w v xs
  len := by rintro w x cs ⟨v, rfl, _⟩; rfl
  one := by
    rintro w x cs ⟨v, rfl, A, c, rfl, _⟩ u hu
    rw [List.mem_singleton.1 hu]
    rfl
  keep := by
    rintro w w1 x cs hk ⟨v, rfl, h⟩
    exact ⟨v, rfl, SL_keep h hk⟩
/-- Two in line. -/
def pair {α β : Type} (a : Kd α) (b : Kd β) : Kd (α × β) where
  sz := a.sz + b.sz
  K := fun w x cs => ∃ c0 c1, cs = c0 ++ c1 ∧ a.K w x.1 c0 ∧ b.K w x.2 c1
  len := by
    rintro w x cs ⟨c0, c1, rfl, h0, h1⟩
    rw [List.length_append, a.len h0, b.len h1]
  one := by
    rintro w x cs ⟨c0, c1, rfl, h0, h1⟩ u hu
    rcases List.mem_append.1 hu with hu | hu
    · exact a.one h0 u hu
    · exact b.one h1 u hu
  keep := by
    rintro w w1 x cs hk ⟨c0, c1, rfl, h0, h1⟩
    exact ⟨c0, c1, rfl, a.keep hk h0, b.keep hk h1⟩
/-- A Lean structure by its fields. -/
def iso {α β : Type} (d : Kd α) (f : β → α) : Kd β where
  sz := d.sz
  K := fun w x cs => d.K w (f x) cs
  len := d.len
  one := d.one
  keep := d.keep

section
variable {w : World} {A : Option Addr}
theorem at_scalar {α : Type} {enc : α → Value} {h1 : ∀ x, (enc x).oneCell' = true} {xs : List α} (h : (scalar enc h1).C w A xs) (j : Nat) (hj : j < xs.length) : ∃ ad, A = some ad ∧ w.cell? (ad.add j) = some (enc xs[j]) := by
  obtain ⟨ad, c, e, hK, hc⟩ := C_at h j hj
  obtain rfl : c = [enc xs[j]] := hK
  exact ⟨ad, e, by simpa [scalar] using hc 0 _ rfl⟩
theorem at_int {k : IntKind} {xs : List Int} (h : (int k).C w A xs) (j : Nat) (hj : j < xs.length) : ∃ ad, A = some ad ∧ w.cell? (ad.add j) = some (.int k xs[j]) := at_scalar h j hj
theorem at_slice {α : Type} {d : Kd α} {xs : List (List α)} (h : d.slice.C w A xs) (j : Nat) (hj : j < xs.length) :
    ∃ ad A1 c1, A = some ad ∧ w.cell? (ad.add j) = some (.slice A1 xs[j].length c1) ∧ xs[j].length ≤ c1 ∧ d.C w A1 xs[j] := by
  obtain ⟨ad, c, e, ⟨v, rfl, A1, c1, rfl, hl, hC⟩, hc⟩ := C_at h j hj
  exact ⟨ad, A1, c1, e, by simpa [slice] using hc 0 _ rfl, hl, hC⟩
end
end Kd

/-- A field's address as the walk spells it. -/
theorem add_field (ad : Addr) (m j : Nat) (hj : 0 < j) : ad.add (m + j) = ⟨(ad.add m).block, (ad.add m).off + j, none⟩ := by
  unfold Addr.add
  by_cases hm : m = 0
  · subst hm
    simp [Nat.ne_of_gt hj]
  · simp [hm, Nat.add_assoc]

theorem cell_b {w w1 : World} (h : Below w.heap.size w w1) {a : Addr} {v : Value} (hc : w.cell? a = some v) : w1.cell? a = some v := cell_keeps (keeps_of h) hc
theorem cell_a {w : World} (o : Obj) {a : Addr} {v : Value} (hc : w.cell? a = some v) : (w.alloc o).cell? a = some v := cell_b ((Below.refl _ _).alloc (Nat.le_refl _) o) hc
theorem below_a {w w1 : World} (h : Below w.heap.size w w1) (o : Obj) : Below w.heap.size w (w1.alloc o) := h.alloc h.size o
theorem below_t {w w1 w2 : World} (h : Below w.heap.size w w1) (k : Below w1.heap.size w1 w2) : Below w.heap.size w w2 := h.trans (k.mono h.size)
theorem cell_new (w : World) (cs : Array Value) (t : TypeId) (j : Nat) (v : Value) (h : cs[j]? = some v) : (w.alloc (.cells cs t)).cell? ⟨w.heap.size, j, none⟩ = some v := by
  unfold World.cell?
  rw [heap_alloc_new]
  simpa using h
/-- A box of two cells, behind a call that makes memory. -/
theorem box2 {w w1 : World} {a b : Value} {t : TypeId} (h : Below (w.alloc (.cells #[a, b] t)).heap.size (w.alloc (.cells #[a, b] t)) w1) :
    w1.cell? ⟨w.heap.size, 0, none⟩ = some a ∧ w1.cell? ⟨w.heap.size, 1, none⟩ = some b ∧ w.heap.size < w1.heap.size ∧ Below w.heap.size w w1 := by
  have hz := h.size
  simp only [World.size_alloc] at hz
  exact ⟨cell_b h (cell_new _ _ _ _ _ rfl), cell_b h (cell_new _ _ _ _ _ rfl), by omega, ((Below.refl _ _).alloc (Nat.le_refl _) _).trans (h.mono (by simp))⟩

end Go.Proofs.Ythapikakneikbaa
