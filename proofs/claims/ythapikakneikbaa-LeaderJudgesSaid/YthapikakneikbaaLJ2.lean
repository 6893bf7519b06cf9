/-
  Lemmas and walks for this claim, part 2: Sets, G0, Base, Spec, Maps, Valid, Bridge, Pure, Shape, Holds, Neigh, NeighBridge, Ggrapharound, GgraphValid, Ggraphnode, GgraphDistances, Gselfstabref01In, LRows, Linked, Refs, Nodes.
-/
import Derived.WalkKit
import Derived.Test.YthapikakneikbaaProg
import Derived.Below
import Derived.Deep.Draws
import Derived.Deep.AppendLies
import Derived.Maps.AppendAt
import Derived.OwnWalk
import Derived.Laws.BytesArg
import Derived.Laws.MakeOwn
import Derived.Laws.OwnMore
import Derived.Deep.OwnRows
import Derived.Tactics
import Derived.Lib.ConvBytes
import Derived.Laws.Slices
import Derived.KernelRfl
import Derived.RowKit3
import Derived.Deep.LoopGhost
import Derived.Deep.QuietTactic
import Derived.BigQuiet
import Derived.WideLaws
import Derived.Deep.DeepCutAuto
import Derived.Deep.CutBlock
import Derived.Deep.RegionHeld3
import Derived.Laws.Rows
import Derived.Lib.AppendStr
import Derived.ArgAppend
import Derived.Laws.IdiomCopy
import Derived.OrdersHeld
import Derived.Laws.BitsLemmas
import Derived.RowKit
import Derived.WalkSpells
import Derived.Lib.Hide
import Derived.Maps.RangeWalk
import Derived.Maps.OwnSet
import Derived.Maps.OwnOps
import Derived.DeepKeys4
import Derived.Laws.BitsAllLaws
import Derived.Test.YthapikakneikbaaLJ1
/-
  Sets of nodes as numbers: bit v stands for node v. Plain Lean.
-/
namespace Go.Proofs.Ythapikakneikbaa
open Go.RowKit
/-- The set of the nodes below n at which p holds. -/
def bitsOf (p : Nat → Bool) : Nat → Nat
  | 0 => 0
  | n + 1 => if p n then bitsOf p n ||| 2 ^ n else bitsOf p n
theorem bitsOf_lt (p : Nat → Bool) (n : Nat) : bitsOf p n < 2 ^ n := by
  induction n with
  | zero => simp [bitsOf]
  | succ n ih =>
    have h1 : 2 ^ n < 2 ^ (n + 1) := Nat.pow_lt_pow_right (by omega) (by omega)
    unfold bitsOf
    split
    · exact Nat.or_lt_two_pow (by omega) h1
    · omega
theorem bitsOf_small {p : Nat → Bool} {n : Nat} (h : n ≤ 32) : bitsOf p n < 4294967296 := Nat.lt_of_lt_of_le (bitsOf_lt p n) (Nat.pow_le_pow_right (by omega) h : 2 ^ n ≤ 2 ^ 32)
theorem testBit_bitsOf (p : Nat → Bool) (n v : Nat) : (bitsOf p n).testBit v = (decide (v < n) && p v) := by
  induction n with
  | zero => simp [bitsOf]
  | succ n ih =>
    unfold bitsOf
    by_cases hv : v = n
    · subst hv
      have h0 : (bitsOf p v).testBit v = false := Nat.testBit_lt_two_pow (bitsOf_lt p v)
      split <;> rename_i hp <;> simp [Nat.testBit_or, h0, Nat.testBit_two_pow_self, hp]
    · have e : decide (v < n + 1) = decide (v < n) := decide_eq_decide.2 (by omega)
      split
      · rw [Nat.testBit_or, ih, Nat.testBit_two_pow_of_ne (Ne.symm hv), Bool.or_false, e]
      · rw [ih, e]
theorem bitsOf_congr {p q : Nat → Bool} {n : Nat} (h : ∀ v, v < n → p v = q v) : bitsOf p n = bitsOf q n := by
  refine Nat.eq_of_testBit_eq fun v => ?_
  rw [testBit_bitsOf, testBit_bitsOf]
  by_cases hv : v < n
  · rw [h v hv]
  · simp [hv]
theorem bitsOf_zero {p : Nat → Bool} {n : Nat} : bitsOf p n = 0 ↔ ∀ v, v < n → p v = false := by
  constructor
  · intro h v hv
    have := testBit_bitsOf p n v
    rw [h] at this
    simpa [hv] using this.symm
  · intro h
    refine Nat.eq_of_testBit_eq fun v => ?_
    rw [testBit_bitsOf]
    by_cases hv : v < n <;> simp [hv]
    exact h v hv
theorem or_bitsOf (p q : Nat → Bool) (n : Nat) : bitsOf p n ||| bitsOf q n = bitsOf (fun v => p v || q v) n := by
  refine Nat.eq_of_testBit_eq fun v => ?_
  rw [Nat.testBit_or, testBit_bitsOf, testBit_bitsOf, testBit_bitsOf]
  cases decide (v < n) <;> simp
/-! ### as the walk spells it -/
theorem shl1 {v : Nat} (h : v < 32) : (2 : Int) ^ v % 4294967296 = ((2 ^ v : Nat) : Int) := by
  have h1 : (2 ^ v : Nat) < 2 ^ 32 := Nat.pow_lt_pow_right (by omega) h
  rw [show ((2 : Int) ^ v) = ((2 ^ v : Nat) : Int) by simp]
  generalize (2 ^ v : Nat) = m at h1
  omega
theorem or_one {s v : Nat} (hs : s < 4294967296) (h : v < 32) : Go.bits .or .u32 (s : Int) ((2 ^ v : Nat) : Int) = ((s ||| 2 ^ v : Nat) : Int) :=
  u32_or_nat s (2 ^ v) hs (Nat.pow_lt_pow_right (by omega) h : 2 ^ v < 2 ^ 32)
/-- Bit v of a set, as the code asks for it. -/
theorem shr_and {s v : Nat} (hs : s < 4294967296) : Go.bits .and .u32 ((s : Int) / 2 ^ v) 1 = if s.testBit v then 1 else 0 := by
  have e : ((s : Int) / 2 ^ v) = ((s / 2 ^ v : Nat) : Int) := by
    rw [Int.natCast_ediv]; simp
  have h1 : s / 2 ^ v < 4294967296 := Nat.lt_of_le_of_lt (Nat.div_le_self _ _) hs
  rw [e, show (1 : Int) = ((1 : Nat) : Int) from rfl, u32_and_nat _ 1 h1 (by decide), Nat.and_one_is_mod]
  rw [Nat.testBit_eq_decide_div_mod_eq]
  have := Nat.mod_two_eq_zero_or_one (s / 2 ^ v)
  rcases this with h | h <;> simp [h]
end Go.Proofs.Ythapikakneikbaa
namespace Go.Proofs.YthapikakneikbaaG
open Go.RowKit Go.Proofs.YthapikakneikbaaW.PrintWords Go.Proofs.YthapikakneikbaaW.PrintLast Go.Proofs.YthapikakneikbaaW.PrintMore
attribute [local go_sem] max2_int min2_int max_two min_two max_three min_three max_four min_four   -- for this text's walks alone
set_option linter.unusedVariables false
set_option linter.unusedSimpArgs false
def errW : Option Int → Value
 | none => .nilIface
 | some c => .iface 0 (.int .i64 c)
theorem errW_none : errW none = .nilIface := rfl
theorem errW_some (c : Int) : errW (some c) = .iface 0 (.int .i64 c) := rfl
theorem info3 : (Try.prog.info? 3).map (fun i => (i.zero, i.size, i.bytes)) = some (some (.int .i64 0), 1, 8) := by kernel_rfl
structure S60 where
 f0 : Int
 f1 : Int
def z60 : S60 := ⟨(0 : Int), (0 : Int)⟩
def k60 : Kd S60 := Kd.iso (Kd.pair (Kd.int .i64) (Kd.int .i64)) (fun x : S60 => (x.f0, x.f1))
theorem k60_open {w : World} {x : S60} {cs : List Value} (h : k60.K w x cs) : cs = [.int .i64 x.f0, .int .i64 x.f1] := by
 obtain ⟨_, _, rfl, rfl, rfl⟩ := h
 exact rfl
theorem k60_mkM (w : World) (base : Nat) (ok : Nat → Prop) (x : S60)  : k60.M w base ok x [.int .i64 x.f0, .int .i64 x.f1] := ⟨[.int .i64 x.f0], [.int .i64 x.f1], rfl, rfl, rfl⟩
def rd_T60 (xs : List S60) (i : Int) : S60 := xs.getD i.toNat z60
theorem at_T60 {w : World} {A : Option Addr} {n : Nat} {xs : List S60} (h : Kd.C k60 w A n xs) (i : Int) (h0 : 0 ≤ i) (h1 : i < n) : ∃ ad , A = some ad ∧ w.cell? (ad.add (i.toNat * 2)) = some (.int .i64 (rd_T60 xs i).f0) ∧ w.cell? ⟨(ad.add (i.toNat * 2)).block, (ad.add (i.toNat * 2)).off + 1, none⟩ = some (.int .i64 (rd_T60 xs i).f1) := by
 obtain ⟨ad, c, e, _, hK, hc0⟩ := Kd.C_get h z60 i h0 h1
 have hc : ∀ j u, c[j]? = some u → w.cell? (ad.add (i.toNat * 2 + j)) = some u := hc0
 obtain rfl := k60_open hK
 exact ⟨ad, e, hc 0 _ rfl, by rw [← add_field _ _ 1 (by omega)]; exact hc 1 _ rfl⟩
def rd_L2 (xs : List (List S60)) (i : Int) : (List S60) := xs.getD i.toNat ([] : List S60)
theorem at_L2 {w : World} {A : Option Addr} {n : Nat} {xs : List (List S60)} (h : Kd.C (Kd.slice 60 k60) w A n xs) (i : Int) (h0 : 0 ≤ i) (h1 : i < n) : ∃ ad A0 c0, A = some ad ∧ w.cell? (ad.add i.toNat) = some (.slice A0 (rd_L2 xs i).length c0) ∧ (rd_L2 xs i).length ≤ c0 ∧ k60.C w A0 (rd_L2 xs i).length (rd_L2 xs i) := by
 obtain ⟨ad, c, e, _, hK, hc0⟩ := Kd.C_get h ([] : List S60) i h0 h1
 have hc : ∀ j u, c[j]? = some u → w.cell? (ad.add (i.toNat * 1 + j)) = some u := hc0
 obtain ⟨A0, c0, rfl, l0, g0⟩ := hK
 exact ⟨ad, A0, c0, e, by have hq := hc 0 _ rfl; rwa [Nat.mul_one, Nat.add_zero] at hq, l0, g0⟩
def rd_L3 (xs : List (List Int)) (i : Int) : (List Int) := xs.getD i.toNat ([] : List Int)
theorem at_L3 {w : World} {A : Option Addr} {n : Nat} {xs : List (List Int)} (h : Kd.C (Kd.slice 3 (Kd.int .i64)) w A n xs) (i : Int) (h0 : 0 ≤ i) (h1 : i < n) : ∃ ad A0 c0, A = some ad ∧ w.cell? (ad.add i.toNat) = some (.slice A0 (rd_L3 xs i).length c0) ∧ (rd_L3 xs i).length ≤ c0 ∧ (Kd.int .i64).C w A0 (rd_L3 xs i).length (rd_L3 xs i) := by
 obtain ⟨ad, c, e, _, hK, hc0⟩ := Kd.C_get h ([] : List Int) i h0 h1
 have hc : ∀ j u, c[j]? = some u → w.cell? (ad.add (i.toNat * 1 + j)) = some u := hc0
 obtain ⟨A0, c0, rfl, l0, g0⟩ := hK
 exact ⟨ad, A0, c0, e, by have hq := hc 0 _ rfl; rwa [Nat.mul_one, Nat.add_zero] at hq, l0, g0⟩
structure S51 where
 f0 : ByteArray
 f1 : Int
 f2 : Int
 f3 : Int
 f4 : Int
 f5 : Int
def k51 : Kd S51 := Kd.iso (Kd.pair Kd.string (Kd.pair (Kd.int .i64) (Kd.pair (Kd.int .i64) (Kd.pair (Kd.int .i64) (Kd.pair (Kd.int .i64) (Kd.int .i64)))))) (fun x : S51 => (x.f0, x.f1, x.f2, x.f3, x.f4, x.f5))
theorem k51_open {w : World} {x : S51} {cs : List Value} (h : k51.K w x cs) : cs = [.string x.f0, .int .i64 x.f1, .int .i64 x.f2, .int .i64 x.f3, .int .i64 x.f4, .int .i64 x.f5] := by
 obtain ⟨_, _, rfl, rfl, ⟨_, _, rfl, rfl, ⟨_, _, rfl, rfl, ⟨_, _, rfl, rfl, ⟨_, _, rfl, rfl, rfl⟩⟩⟩⟩⟩ := h
 exact rfl
theorem k51_mkM (w : World) (base : Nat) (ok : Nat → Prop) (x : S51)  : k51.M w base ok x [.string x.f0, .int .i64 x.f1, .int .i64 x.f2, .int .i64 x.f3, .int .i64 x.f4, .int .i64 x.f5] := ⟨[.string x.f0], [.int .i64 x.f1, .int .i64 x.f2, .int .i64 x.f3, .int .i64 x.f4, .int .i64 x.f5], rfl, rfl, ⟨[.int .i64 x.f1], [.int .i64 x.f2, .int .i64 x.f3, .int .i64 x.f4, .int .i64 x.f5], rfl, rfl, ⟨[.int .i64 x.f2], [.int .i64 x.f3, .int .i64 x.f4, .int .i64 x.f5], rfl, rfl, ⟨[.int .i64 x.f3], [.int .i64 x.f4, .int .i64 x.f5], rfl, rfl, ⟨[.int .i64 x.f4], [.int .i64 x.f5], rfl, rfl, rfl⟩⟩⟩⟩⟩
end Go.Proofs.YthapikakneikbaaG
/-
  Words for memory, for all walks of this seat: rows of elements that are read (Kd, Kd.C), facts that do not depend on some blocks (Dep), rows of the call's own.
-/
namespace Go.Proofs.Ythapikakneikbaa
open Go.RowKit
/-! ### Worlds -/
/-- w' has all blocks of w. -/
def Keeps (w w' : World) : Prop := ∀ k, k < w.heap.size → w'.heap[k]? = w.heap[k]?
theorem keeps_of {w w' : World} (h : Below w.heap.size w w') : Keeps w w' := fun k hk => h.block k hk
theorem cell_keeps {w w1 : World} (h : Keeps w w1) {a : Addr} {v : Value} (hc : w.cell? a = some v) : w1.cell? a = some v :=
  (World.cell?_of_block (w := w) (h _ (World.block_lt_of_cell? w a hc))).trans hc
theorem bcell {B : Nat} {W w1 : World} (hb : Below B W w1) : (∀ b o, b < B → w1.cell? ⟨b, o, none⟩ = W.cell? ⟨b, o, none⟩) ∧ (∀ b o, b < B → w1.frozen? ⟨b, o, none⟩ = W.frozen? ⟨b, o, none⟩) :=
  ⟨fun b o h => hb.cell (p := ⟨b, o, none⟩) h, fun b o h => hb.frozen (p := ⟨b, o, none⟩) h⟩
theorem below_drewN {B : Nat} {w W : World} (h : Below B w W) (n : Nat) : Below B w (W.drewN n) := ⟨h.os, h.tape, h.output, h.size, h.block⟩
theorem below_then {B : Nat} {w w1 w2 : World} (h : Below B w w1) (hB : B ≤ w1.heap.size) (k : Below w1.heap.size w1 w2) : Below B w w2 := h.trans (k.mono hB)
/-- P holds in every world that has w's blocks, those of 'no' apart. -/
def Dep (P : World → Prop) (w : World) (no : Nat → Prop) : Prop := ∀ w', (∀ k, k < w.heap.size → ¬ no k → w'.heap[k]? = w.heap[k]?) → P w'
theorem Dep.now {P : World → Prop} {w : World} {no : Nat → Prop} (h : Dep P w no) : P w := h w fun _ _ _ => rfl
/-- Blocks of 'no' have been written, and new blocks laid: of these, too, nothing is asked. -/
theorem Dep.step {P : World → Prop} {w w1 : World} {no no' : Nat → Prop} (h : Dep P w no) (hs : w.heap.size ≤ w1.heap.size) (hw : ∀ k, k < w.heap.size → ¬ no k → w1.heap[k]? = w.heap[k]?)
    (hn : ∀ k, k < w.heap.size → no' k → no k) : Dep P w1 no' := fun w' h' => h w' fun k hk hno => (h' k (by omega) (fun h2 => hno (hn k hk h2))).trans (hw k hk hno)
theorem Dep.keep {P : World → Prop} {w w1 : World} {no : Nat → Prop} (h : Dep P w no) (hs : w.heap.size ≤ w1.heap.size) (hw : ∀ k, k < w.heap.size → ¬ no k → w1.heap[k]? = w.heap[k]?) : Dep P w1 no := h.step hs hw fun _ _ h => h
theorem Dep.below {P : World → Prop} {w w1 : World} {no : Nat → Prop} (h : Dep P w no) (hb : Below w.heap.size w w1) : Dep P w1 no := h.keep hb.size fun k hk _ => hb.block k hk
theorem Dep.imp {P Q : World → Prop} {w : World} {no : Nat → Prop} (h : Dep P w no) (hi : ∀ w', P w' → Q w') : Dep Q w no := fun w' hw => hi _ (h w' hw)
/-! ### Kinds of elements -/
/-- What an element's cells say. -/
structure Kd (α : Type) where
  sz : Nat
  K : World → α → List Value → Prop
  len : ∀ {w x cs}, K w x cs → cs.length = sz
  one : ∀ {w x cs}, K w x cs → ∀ u ∈ cs, u.oneCell' = true
  keep : ∀ {w w' x cs}, Keeps w w' → K w x cs → K w' x cs
namespace Kd
/-- A row of elements that is read: the address, and what is read. -/
def C {α : Type} (d : Kd α) (w : World) (A : Option Addr) (xs : List α) : Prop :=
  xs.length ≤ 9223372036854775807 ∧ (0 < xs.length → ∃ ad, A = some ad ∧ ∀ (j : Nat) x, xs[j]? = some x → ∃ c, d.K w x c ∧ ∀ (i : Nat) u, c[i]? = some u → w.cell? (ad.add (j * d.sz + i)) = some u)
/-- A slice's value reads as a list. -/
def SL {α : Type} (d : Kd α) (w : World) (v : Value) (xs : List α) : Prop := ∃ A c, v = .slice A xs.length c ∧ xs.length ≤ c ∧ d.C w A xs
section
variable {α : Type} {d : Kd α} {w w1 : World} {A : Option Addr} {xs : List α} {v : Value}
theorem C_keep (h : d.C w A xs) (hk : Keeps w w1) : d.C w1 A xs := ⟨h.1, fun hn => by
  obtain ⟨ad, e, hc⟩ := h.2 hn
  refine ⟨ad, e, fun j x hj => ?_⟩
  obtain ⟨c, hK, hcell⟩ := hc j x hj
  exact ⟨c, d.keep hk hK, fun i u hu => cell_keeps hk (hcell i u hu)⟩⟩
theorem C_below (h : d.C w A xs) (hb : Below w.heap.size w w1) : d.C w1 A xs := C_keep h (keeps_of hb)
theorem SL_keep (h : d.SL w v xs) (hk : Keeps w w1) : d.SL w1 v xs := by
  obtain ⟨A, c, e, hl, hc⟩ := h
  exact ⟨A, c, e, hl, C_keep hc hk⟩
theorem C_nil (d : Kd α) (w : World) (A : Option Addr) : d.C w A [] := ⟨by simp, fun h => absurd h (Nat.lt_irrefl 0)⟩
theorem C_max (h : d.C w A xs) : xs.length ≤ 9223372036854775807 := h.1
/-- The element at a place. -/
theorem C_at (h : d.C w A xs) (j : Nat) (hj : j < xs.length) : ∃ ad c, A = some ad ∧ d.K w xs[j] c ∧ ∀ (i : Nat) u, c[i]? = some u → w.cell? (ad.add (j * d.sz + i)) = some u := by
  obtain ⟨ad, e, hc⟩ := h.2 (by omega)
  obtain ⟨c, hK, hcell⟩ := hc j _ (List.getElem?_eq_getElem hj)
  exact ⟨ad, c, e, hK, hcell⟩
end
def scalar {α : Type} (enc : α → Value) (h1 : ∀ x, (enc x).oneCell' = true) : Kd α where
  sz := 1
  K := fun _ x cs => cs = [enc x]
  len := fun h => by rw [h]; rfl
  one := fun h u hu => by rw [h] at hu; rw [List.mem_singleton.1 hu]; exact h1 _
  keep := fun _ h => h
def int (k : IntKind) : Kd Int := scalar (Value.int k) (fun _ => rfl)
def bool : Kd Bool := scalar Value.bool (fun _ => rfl)
def slice {α : Type} (d : Kd α) : Kd (List α) where
  sz := 1
  K := fun w xs cs => ∃ v, cs = [v] ∧ d.SL w v xs
  len := by rintro w x cs ⟨v, rfl, _⟩; rfl
  one := by
    rintro w x cs ⟨v, rfl, A, c, rfl, _⟩ u hu
    rw [List.mem_singleton.1 hu]
    rfl
  keep := by
    rintro w w1 x cs hk ⟨v, rfl, h⟩
    exact ⟨v, rfl, SL_keep h hk⟩
/-- Two in line. -/
def pair {α β : Type} (a : Kd α) (b : Kd β) : Kd (α × β) where
  sz := a.sz + b.sz
  K := fun w x cs => ∃ c0 c1, cs = c0 ++ c1 ∧ a.K w x.1 c0 ∧ b.K w x.2 c1
  len := by
    rintro w x cs ⟨c0, c1, rfl, h0, h1⟩
    rw [List.length_append, a.len h0, b.len h1]
  one := by
    rintro w x cs ⟨c0, c1, rfl, h0, h1⟩ u hu
    rcases List.mem_append.1 hu with hu | hu
    · exact a.one h0 u hu
    · exact b.one h1 u hu
  keep := by
    rintro w w1 x cs hk ⟨c0, c1, rfl, h0, h1⟩
    exact ⟨c0, c1, rfl, a.keep hk h0, b.keep hk h1⟩
/-- A Lean structure by its fields. -/
def iso {α β : Type} (d : Kd α) (f : β → α) : Kd β where
  sz := d.sz
  K := fun w x cs => d.K w (f x) cs
  len := d.len
  one := d.one
  keep := d.keep
section
variable {w : World} {A : Option Addr}
theorem at_scalar {α : Type} {enc : α → Value} {h1 : ∀ x, (enc x).oneCell' = true} {xs : List α} (h : (scalar enc h1).C w A xs) (j : Nat) (hj : j < xs.length) : ∃ ad, A = some ad ∧ w.cell? (ad.add j) = some (enc xs[j]) := by
  obtain ⟨ad, c, e, hK, hc⟩ := C_at h j hj
  obtain rfl : c = [enc xs[j]] := hK
  exact ⟨ad, e, by simpa [scalar] using hc 0 _ rfl⟩
theorem at_int {k : IntKind} {xs : List Int} (h : (int k).C w A xs) (j : Nat) (hj : j < xs.length) : ∃ ad, A = some ad ∧ w.cell? (ad.add j) = some (.int k xs[j]) := at_scalar h j hj
theorem at_slice {α : Type} {d : Kd α} {xs : List (List α)} (h : d.slice.C w A xs) (j : Nat) (hj : j < xs.length) :
    ∃ ad A1 c1, A = some ad ∧ w.cell? (ad.add j) = some (.slice A1 xs[j].length c1) ∧ xs[j].length ≤ c1 ∧ d.C w A1 xs[j] := by
  obtain ⟨ad, c, e, ⟨v, rfl, A1, c1, rfl, hl, hC⟩, hc⟩ := C_at h j hj
  exact ⟨ad, A1, c1, e, by simpa [slice] using hc 0 _ rfl, hl, hC⟩
end
end Kd
/-- A field's address as the walk spells it. -/
theorem add_field (ad : Addr) (m j : Nat) (hj : 0 < j) : ad.add (m + j) = ⟨(ad.add m).block, (ad.add m).off + j, none⟩ := by
  unfold Addr.add
  by_cases hm : m = 0
  · subst hm
    simp [Nat.ne_of_gt hj]
  · simp [hm, Nat.add_assoc]
theorem cell_b {w w1 : World} (h : Below w.heap.size w w1) {a : Addr} {v : Value} (hc : w.cell? a = some v) : w1.cell? a = some v := cell_keeps (keeps_of h) hc
theorem cell_a {w : World} (o : Obj) {a : Addr} {v : Value} (hc : w.cell? a = some v) : (w.alloc o).cell? a = some v := cell_b ((Below.refl _ _).alloc (Nat.le_refl _) o) hc
theorem cell_new (w : World) (cs : Array Value) (t : TypeId) (j : Nat) (v : Value) (h : cs[j]? = some v) : (w.alloc (.cells cs t)).cell? ⟨w.heap.size, j, none⟩ = some v := by
  unfold World.cell?
  rw [heap_alloc_new]
  simpa using h
/-- A box of two cells, behind a call that makes memory. -/
theorem box2 {w w1 : World} {a b : Value} {t : TypeId} (h : Below (w.alloc (.cells #[a, b] t)).heap.size (w.alloc (.cells #[a, b] t)) w1) :
    w1.cell? ⟨w.heap.size, 0, none⟩ = some a ∧ w1.cell? ⟨w.heap.size, 1, none⟩ = some b ∧ w.heap.size < w1.heap.size ∧ Below w.heap.size w w1 := by
  have hz := h.size
  simp only [World.size_alloc] at hz
  exact ⟨cell_b h (cell_new _ _ _ _ _ rfl), cell_b h (cell_new _ _ _ _ _ rfl), by omega, ((Below.refl _ _).alloc (Nat.le_refl _) _).trans (h.mono (by simp))⟩
end Go.Proofs.Ythapikakneikbaa
/-
  Plain data of the program: links, graphs, and what a valid graph is. No program and no memory in this text.
-/
namespace Go.Proofs.Ythapikakneikbaa
structure Link where
  to_ : Int
  wt : Int
instance : DecidableEq Link := fun a b => if h : a.to_ = b.to_ ∧ a.wt = b.wt then isTrue (by cases a; cases b; simp_all) else isFalse (by rintro rfl; simp at h)
structure Graph where
  ids : List Int
  ports : List (List Link)
/-- A link as it is seen from one of its ends: that end, the other end, the weight. -/
structure Edge where
  fr : Int
  to_ : Int
  wt : Int
instance : DecidableEq Edge := fun a b => if h : a.fr = b.fr ∧ a.to_ = b.to_ ∧ a.wt = b.wt then isTrue (by cases a; cases b; simp_all) else isFalse (by rintro rfl; simp at h)
/-- The links of node v, from port 0 on. -/
def rowEdges (v : Int) (ps : List Link) : List Edge := ps.map fun l => ⟨v, l.to_, l.wt⟩
def edgesFrom : Int → List (List Link) → List Edge
  | _, [] => []
  | v, ps :: r => rowEdges v ps ++ edgesFrom (v + 1) r
def Graph.edges (g : Graph) : List Edge := edgesFrom 0 g.ports
theorem edgesFrom_append (v : Int) (a b : List (List Link)) : edgesFrom v (a ++ b) = edgesFrom v a ++ edgesFrom (v + a.length) b := by
  induction a generalizing v with
  | nil => simp [edgesFrom]
  | cons p r ih => simp only [List.cons_append, edgesFrom, ih, List.append_assoc, List.length_cons]; congr 3; omega
theorem mem_edgesFrom {v : Int} {P : List (List Link)} {e : Edge} : e ∈ edgesFrom v P ↔ ∃ (k : Nat) (ps : List Link), P[k]? = some ps ∧ e.fr = v + k ∧ (⟨e.to_, e.wt⟩ : Link) ∈ ps := by
  induction P generalizing v with
  | nil => simp [edgesFrom]
  | cons p r ih =>
    simp only [edgesFrom, List.mem_append, ih, rowEdges, List.mem_map]
    constructor
    · rintro (⟨l, hl, rfl⟩ | ⟨k, ps, h1, h2, h3⟩)
      · exact ⟨0, p, rfl, by simp, hl⟩
      · exact ⟨k + 1, ps, by simpa using h1, by rw [h2]; omega, h3⟩
    · rintro ⟨k, ps, h1, h2, h3⟩
      cases k with
      | zero =>
        have e1 : p = ps := by simpa using h1
        subst e1
        exact .inl ⟨_, h3, by cases e; simp at h2; simp [h2]⟩
      | succ k => exact .inr ⟨k, ps, by simpa using h1, by rw [h2]; omega, h3⟩
/-- The ends of a link and its weight are in range; n: the number of nodes. -/
def Edge.ok (n : Nat) (e : Edge) : Bool := decide (0 ≤ e.to_ ∧ e.to_ < n ∧ e.to_ ≠ e.fr ∧ 1 ≤ e.wt ∧ e.wt ≤ 15)
def Edge.key (e : Edge) : Int × Int := (e.fr, e.to_)
/-- Is there the same link as it is seen from its other end? -/
def Edge.back (E : List Edge) (e : Edge) : Bool := decide ((⟨e.to_, e.fr, e.wt⟩ : Edge) ∈ E)
def okID (x : Int) : Bool := decide (0 ≤ x ∧ x ≤ 255)
/-- The list has no element twice. -/
def apart {α : Type} [DecidableEq α] (l : List α) : Bool := decide l.Nodup
def Graph.valid (g : Graph) : Bool :=
  decide (1 ≤ g.ports.length ∧ g.ports.length ≤ 24 ∧ g.ids.length = g.ports.length) && g.ids.all okID && apart g.ids &&
    g.edges.all (Edge.ok g.ports.length) && apart (g.edges.map Edge.key) && g.edges.all (Edge.back g.edges)
theorem valid_iff (g : Graph) : g.valid = true ↔ (1 ≤ g.ports.length ∧ g.ports.length ≤ 24 ∧ g.ids.length = g.ports.length) ∧ (∀ x ∈ g.ids, okID x = true) ∧ g.ids.Nodup ∧
    (∀ e ∈ g.edges, e.ok g.ports.length = true) ∧ (g.edges.map Edge.key).Nodup ∧ ∀ e ∈ g.edges, e.back g.edges = true := by
  simp [Graph.valid, apart, and_assoc]
end Go.Proofs.Ythapikakneikbaa
/-
  The two maps of graph.Valid: their keys' laws, and what a look-up gives, in the words of lists.
-/
namespace Go.Proofs.Ythapikakneikbaa
open Go.RowKit Go.Maps
theorem lawInt : Keyed Try.prog 3 := int_keyed Try.underlying3
theorem laidOut : laidOutB Try.prog = true := by kernel_rfl
theorem rowEnd : (84 : TypeId) < Try.prog.types.size := of_decide_eq_true (by kernel_rfl)
theorem cellsEnd : Try.prog.cellsOf 84 = 2 := by kernel_rfl
theorem wideEnd : (match Try.prog.underlying 84 with | some (.array _ _) | some (.struct _) => true | _ => false) = true := by kernel_rfl
theorem lawEnd : Keyed Try.prog 84 := Keyed.of_law (deep_law_laid laidOut (m := 3) (by omega) rowEnd (by kernel_rfl) wideEnd)
theorem keyEnd : Try.prog.keyType 84 = true := by kernel_rfl
theorem zeroBool (w : World) : (zeroValue 4).run Try.prog w = .ok (.bool false) w := by kernel_rfl
theorem zeroInt (w : World) : (zeroValue 3).run Try.prog w = .ok (.int .i64 0) w := by kernel_rfl
/-- What the key end{a, b} reads as. -/
def ek (a b : Int) : Lit := .string (keyBytes [.int .i64 a, .int .i64 b])
theorem wf_of {a : Int} (h0 : 0 ≤ a) (h1 : a ≤ 4294967295) : (Lit.int .i64 a).wf = true := by
  have h2 : (IntKind.i64.min : Int) ≤ a := Int.le_trans (by decide) h0
  have h3 : a ≤ (IntKind.i64.max : Int) := Int.le_trans h1 (by decide)
  show (decide (IntKind.i64.min ≤ a) && decide (a ≤ IntKind.i64.max)) = true
  rw [decide_eq_true h2, decide_eq_true h3]
  rfl
theorem typesPos : ∃ m, Try.prog.types.size = m + 1 := Nat.exists_eq_succ_of_ne_zero (Nat.ne_of_gt (Nat.lt_of_le_of_lt (Nat.zero_le _) rowEnd))
theorem cellsInt : Try.prog.cellsOf 3 = 1 := by kernel_rfl
/-- What a cell of an int reads as, inside a key. -/
def litInt : Value → Option (List Lit)
  | .int q n => if q = IntKind.i64 ∧ (Lit.int q n).wf = true then some [Lit.int q n] else none
  | _ => none
theorem litInt_inv {v : Value} {l : List Lit} (h : litInt v = some l) : ∃ a, v = .int .i64 a ∧ (Lit.int .i64 a).wf = true ∧ l = [.int .i64 a] := by
  cases v <;> simp [litInt] at h
  obtain ⟨⟨rfl, h1⟩, rfl⟩ := h
  exact ⟨_, rfl, h1, rfl⟩
theorem keyLits_int (m : Nat) (v : Value) : Try.prog.keyLits (m + 1) 3 [v] = litInt v := by
  unfold Program.keyLits
  rw [Try.underlying3]
  cases v <;> try rfl
  rename_i k n
  simp only [litInt]
  by_cases hk : k = IntKind.i64
  · subst hk; simp
  · simp [hk]
theorem keyLits_end (v0 v1 : Value) : Try.prog.keyLits (Try.prog.types.size + 1) 84 [v0, v1] = (litInt v0).bind fun l0 => (litInt v1).map fun l1 => l0 ++ l1 := by
  obtain ⟨m, hm⟩ := typesPos
  rw [hm]
  unfold Program.keyLits
  rw [Try.underlying84]
  have hc : ([v0, v1] : List Value).length = Try.prog.cellsOf 84 := by rw [cellsEnd]; rfl
  simp only [hc, true_and]
  rw [if_pos (by simp)]
  simp only [List.mapM_cons, List.mapM_nil, List.drop_zero, List.drop_succ_cons, cellsInt, List.take_succ_cons, List.take_zero, keyLits_int]
  cases litInt v0 <;> cases litInt v1 <;> simp
theorem keyOf_end {a b : Int} (ha : (Lit.int .i64 a).wf = true) (hb : (Lit.int .i64 b).wf = true) : keyOf Try.prog 84 (.agg #[.int .i64 a, .int .i64 b]) = some (ek a b) := by
  have hf : (Value.agg #[.int .i64 a, .int .i64 b]).formed Try.prog 84 = true := by simp [Value.formed, Try.underlying84, cellsEnd]
  unfold keyOf
  rw [Try.underlying84]
  simp only [keyEnd, hf, Bool.and_self, if_true]
  show (Try.prog.keyLits (Try.prog.types.size + 1) 84 [.int .i64 a, .int .i64 b]).map _ = _
  rw [keyLits_end]
  simp [litInt, ha, hb, ek]
theorem keyOf_end_inv {v : Value} {l : Lit} (h : keyOf Try.prog 84 v = some l) : ∃ a b, v = .agg #[.int .i64 a, .int .i64 b] ∧ (Lit.int .i64 a).wf = true ∧ (Lit.int .i64 b).wf = true ∧ l = ek a b := by
  obtain ⟨xs, L, rfl, hL, rfl⟩ := keyOf_top wideEnd h
  obtain ⟨xs⟩ := xs
  have hlen : xs.length = 2 := by
    unfold keyOf at h
    rw [Try.underlying84] at h
    simp only [keyEnd, Bool.true_and] at h
    split at h
    · rename_i hf
      simpa [Value.formed, Try.underlying84, cellsEnd] using hf
    · cases h
  match xs, hlen with
  | [v0, v1], _ =>
    rw [keyLits_end] at hL
    obtain ⟨l0, h0, hL⟩ := Option.bind_eq_some_iff.1 hL
    obtain ⟨l1, h1, rfl⟩ := Option.map_eq_some_iff.1 hL
    obtain ⟨a, rfl, ha, rfl⟩ := litInt_inv h0
    obtain ⟨b, rfl, hb, rfl⟩ := litInt_inv h1
    exact ⟨a, b, rfl, ha, hb, rfl⟩
theorem ek_inj {a b a' b' : Int} (ha : (Lit.int .i64 a).wf = true) (hb : (Lit.int .i64 b).wf = true) (ha' : (Lit.int .i64 a').wf = true) (hb' : (Lit.int .i64 b').wf = true) (h : ek a b = ek a' b') : a = a' ∧ b = b' := by
  have h1 := lawEnd.inj (keyOf_end ha hb) (h ▸ keyOf_end ha' hb')
  simpa using h1
theorem ek_key (a b : Int) : WideAt.IsKeyLit (ek a b) := trivial
/-! ### the set of identifiers: map[int]bool -/
/-- Block b is a map[int]bool that says true at the numbers of l alone. -/
def HasIDs (w : World) (b : Nat) (l : List Int) : Prop := ∃ D : DataW Unit, w.ownsMap Try.prog 3 (plainElem Try.prog 4) b l.length D ∧
  (∀ x ∈ l, (Lit.int .i64 x).wf = true) ∧ ∀ x, (Lit.int .i64 x).wf = true → D.atKey (.int .i64 x) (.lit (.bool false)) = .lit (.bool (decide (x ∈ l)))
theorem HasIDs.made (w : World) : HasIDs (w.alloc (.map #[] 0)) w.heap.size [] := ⟨_, World.ownsMap_made _ _ _ _, by simp, fun x _ => by simp [DataW.atKey]⟩
theorem HasIDs.kept {w w' : World} {b : Nat} {l : List Int} {row : Option Nat} (h : HasIDs w b l) (hg : w.grownBy w' row) (hne : some b ≠ row) : HasIDs w' b l := by
  obtain ⟨D, h1, h2, h3⟩ := h
  exact ⟨D, h1.kept hg hne, h2, h3⟩
/-- A look-up. -/
theorem HasIDs.look {w : World} {b : Nat} {l : List Int} (h : HasIDs w b l) {x : Int} (hx : (Lit.int .i64 x).wf = true) : (Instr.lookup 81 (.map (some b)) (.int .i64 x) false).run Try.prog w = .ok (.bool (decide (x ∈ l))) w := by
  obtain ⟨D, h1, _, h3⟩ := h
  obtain ⟨v, ps, hrun, hv⟩ := h1.lookup lawInt Try.underlying81 (zeroBool w) (plainElem_bool Try.underlying4 false) (keyOf_int_mk Try.underlying3 hx)
  rw [h3 x hx] at hv
  have : v = .bool (decide (x ∈ l)) := by
    unfold plainElem at hv
    rw [Try.underlying4] at hv
    cases v <;> simp at hv
    rw [hv.1]
  rw [hrun, this]
/-- A store. -/
theorem HasIDs.put {w' : World} {b : Nat} {l : List Int} {D : DataW Unit} (h2 : ∀ x ∈ l, (Lit.int .i64 x).wf = true) (h3 : ∀ x, (Lit.int .i64 x).wf = true → D.atKey (.int .i64 x) (.lit (.bool false)) = .lit (.bool (decide (x ∈ l))))
    (hm : IsMap D) {y : Int} (hy : (Lit.int .i64 y).wf = true) (h : w'.ownsMap Try.prog 3 (plainElem Try.prog 4) b (l.length + 1) (D.put (.int .i64 y) (.lit (.bool true)))) : HasIDs w' b (l ++ [y]) := by
  refine ⟨_, by simpa using h, ?_, ?_⟩
  · intro x hx
    rcases List.mem_append.1 hx with hx | hx
    · exact h2 x hx
    · rw [List.mem_singleton.1 hx]; exact hy
  · intro x hx
    by_cases e : x = y
    · subst e
      rw [atKey_put_same hm (show WideAt.IsKeyLit (.int .i64 x) from trivial)]
      simp
    · rw [atKey_put_other (by simpa using e), h3 x hx]
      simp [e]
/-! ### the weights: map[end]int -/
/-- D says of each link in E its weight, and nothing of others. -/
structure Says (D : DataW Unit) (E : List Edge) : Prop where
  isMap : IsMap D
  at_ : ∀ e ∈ E, ∀ z, D.atKey (ek e.fr e.to_) z = .lit (.int .i64 e.wt)
  no : ∀ a b, (Lit.int .i64 a).wf = true → (Lit.int .i64 b).wf = true → (a, b) ∉ E.map Edge.key → has D (ek a b) = false
  wf : ∀ e ∈ E, (Lit.int .i64 e.fr).wf = true ∧ (Lit.int .i64 e.to_).wf = true
theorem Says.nil : Says (.map []) [] := ⟨isMap_empty, by simp, fun _ _ _ _ _ => rfl, by simp⟩
theorem Says.put {D : DataW Unit} {E : List Edge} (h : Says D E) (e : Edge) (hf : (Lit.int .i64 e.fr).wf = true) (ht : (Lit.int .i64 e.to_).wf = true) (hn : e.key ∉ E.map Edge.key) :
    Says (D.put (ek e.fr e.to_) (.lit (.int .i64 e.wt))) (E ++ [e]) := by
  refine ⟨h.isMap.put _ _, ?_, ?_, ?_⟩
  · intro d hd z
    rcases List.mem_append.1 hd with hd | hd
    · have hne : ek d.fr d.to_ ≠ ek e.fr e.to_ := fun he => by
        obtain ⟨h1, h2⟩ := ek_inj (h.wf d hd).1 (h.wf d hd).2 hf ht he
        exact hn (List.mem_map.2 ⟨d, hd, by simp [Edge.key, h1, h2]⟩)
      rw [atKey_put_other hne]
      exact h.at_ d hd z
    · rw [List.mem_singleton.1 hd]
      exact atKey_put_same h.isMap (ek_key _ _) _ _
  · intro a b ha hb hno
    have hne : ek a b ≠ ek e.fr e.to_ := fun he => by
      obtain ⟨h1, h2⟩ := ek_inj ha hb hf ht he
      exact hno (by simp [Edge.key, h1, h2])
    rw [has_put_other hne]
    exact h.no a b ha hb (fun hm => hno (by simp only [List.map_append, List.mem_append]; exact .inl hm))
  · intro d hd
    rcases List.mem_append.1 hd with hd | hd
    · exact h.wf d hd
    · rw [List.mem_singleton.1 hd]
      exact ⟨hf, ht⟩
/-- Block b is the map of the links E. -/
def HasLinks (w : World) (b : Nat) (E : List Edge) : Prop := ∃ D : DataW Unit, w.ownsMap Try.prog 84 (plainElem Try.prog 3) b E.length D ∧ Says D E
theorem HasLinks.made (w : World) : HasLinks (w.alloc (.map #[] 0)) w.heap.size [] := ⟨_, World.ownsMap_made _ _ _ _, .nil⟩
theorem HasLinks.kept {w w' : World} {b : Nat} {E : List Edge} {row : Option Nat} (h : HasLinks w b E) (hg : w.grownBy w' row) (hne : some b ≠ row) : HasLinks w' b E := by
  obtain ⟨D, h1, h2⟩ := h
  exact ⟨D, h1.kept hg hne, h2⟩
/-- The weight that the list has for two ends, or 0. -/
def weightOf (E : List Edge) (a b : Int) : Int := ((E.find? fun e => e.key == (a, b)).map Edge.wt).getD 0
theorem weight_no {E : List Edge} {a b : Int} (h : (a, b) ∉ E.map Edge.key) : weightOf E a b = 0 := by
  unfold weightOf
  rw [List.find?_eq_none.2]
  · rfl
  · intro e he hk
    exact h (List.mem_map.2 ⟨e, he, by simpa using hk⟩)
theorem weight_yes {E : List Edge} {a b : Int} (h : (a, b) ∈ E.map Edge.key) : ∃ e ∈ E, e.key = (a, b) ∧ weightOf E a b = e.wt := by
  unfold weightOf
  cases hf : E.find? fun e => e.key == (a, b) with
  | none =>
    obtain ⟨e, he, hk⟩ := List.mem_map.1 h
    have := List.find?_eq_none.1 hf e he
    simp [hk] at this
  | some e => exact ⟨e, List.mem_of_find?_eq_some hf, by simpa using List.find?_some hf, rfl⟩
theorem own_look {w : World} {b n : Nat} {D : DataW Unit} {E : List Edge} (ho : w.ownsMap Try.prog 84 (plainElem Try.prog 3) b n D) (h : Says D E) {x y : Int} (hx : (Lit.int .i64 x).wf = true) (hy : (Lit.int .i64 y).wf = true) :
    (Instr.lookup 82 (.map (some b)) (.agg #[.int .i64 x, .int .i64 y]) false).run Try.prog w = .ok (.int .i64 (weightOf E x y)) w := by
  obtain ⟨c, hrun, hat, _⟩ := ho.lookup_int lawEnd Try.underlying82 Try.underlying3 (zeroInt w) (keyOf_end hx hy)
  have hc : c = weightOf E x y := by
    by_cases hm : (x, y) ∈ E.map Edge.key
    · obtain ⟨e, he, hk, hw⟩ := weight_yes hm
      have h1 := h.at_ e he (.lit (.int .i64 0))
      obtain ⟨rfl, rfl⟩ : e.fr = x ∧ e.to_ = y := by simpa [Edge.key] using hk
      rw [h1] at hat
      simp at hat
      rw [hw, hat]
    · rw [atKey_of_not_has (h.no x y hx hy hm)] at hat
      simp at hat
      rw [weight_no hm, ← hat]
  rw [hrun, hc]
end Go.Proofs.Ythapikakneikbaa
/-
  graph.Valid: what the call returns, for every graph.
-/
namespace Go.Proofs.Ythapikakneikbaa
open Go.RowKit Go.Maps
/-! ### kinds -/
def kLink : Kd Link := Kd.iso (Kd.pair (Kd.int .i64) (Kd.int .i64)) (fun l => (l.to_, l.wt))
theorem at_link {w : World} {A : Option Addr} {xs : List Link} (h : kLink.C w A xs) (j : Nat) (hj : j < xs.length) : ∃ ad, A = some ad ∧ w.cell? (ad.add (j * 2)) = some (.int .i64 xs[j].to_) ∧ w.cell? ⟨(ad.add (j * 2)).block, (ad.add (j * 2)).off + 1, none⟩ = some (.int .i64 xs[j].wt) := by
  obtain ⟨ad, c, e, hK, hc⟩ := Kd.C_at h j hj
  obtain ⟨_, _, rfl, rfl, rfl⟩ := hK
  refine ⟨ad, e, hc 0 _ rfl, ?_⟩
  rw [← add_field _ _ 1 (by omega)]
  exact hc 1 _ rfl
/-- The two slices of a graph. -/
structure IsGraph (w : World) (A0 : Option Addr) (c0 : Nat) (A1 : Option Addr) (c1 : Nat) (g : Graph) : Prop where
  ids : (Kd.int .i64).C w A0 g.ids
  idc : g.ids.length ≤ c0
  ports : kLink.slice.C w A1 g.ports
  prc : g.ports.length ≤ c1
theorem IsGraph.keep {w w1 : World} {A0 c0 A1 c1} {g : Graph} (h : IsGraph w A0 c0 A1 c1 g) (hk : Keeps w w1) : IsGraph w1 A0 c0 A1 c1 g := ⟨Kd.C_keep h.ids hk, h.idc, Kd.C_keep h.ports hk, h.prc⟩
theorem IsGraph.below {w w1 : World} {A0 c0 A1 c1} {g : Graph} (h : IsGraph w A0 c0 A1 c1 g) (hb : Below w.heap.size w w1) : IsGraph w1 A0 c0 A1 c1 g := h.keep (keeps_of hb)
theorem valid_no {g : Graph} (h : ¬ (1 ≤ g.ports.length ∧ g.ports.length ≤ 24 ∧ g.ids.length = g.ports.length)) : g.valid = false := by
  cases hv : g.valid with
  | false => rfl
  | true => exact absurd ((valid_iff g).1 hv).1 h
set_option maxHeartbeats 1000000 in
theorem valid_early (w : World) (A0 : Option Addr) (c0 : Nat) (A1 : Option Addr) (c1 : Nat) (g : Graph) (h : ¬ (1 ≤ g.ports.length ∧ g.ports.length ≤ 24 ∧ g.ids.length = g.ports.length)) :
    Calls Try.prog 80 #[.agg #[.slice A0 g.ids.length c0, .slice A1 g.ports.length c1]] w fun e w' => e = .returned (.bool g.valid) ∧ Below w.heap.size w w' := by
  have HV := Lib.hid (valid_no h)
  by_cases h1 : g.ports.length < 1
  · go_enter Try.func80, Try.ntmps80
    go_wp2_with fail
    go_ret
    exact ⟨by rw [HV.out]; rfl, (Below.refl _ _).alloc (Nat.le_refl _) _⟩
  · by_cases h2 : 24 < g.ports.length
    · go_enter Try.func80, Try.ntmps80
      go_wp2_with fail
      go_ret
      exact ⟨by rw [HV.out]; rfl, (Below.refl _ _).alloc (Nat.le_refl _) _⟩
    · have h3 : ¬ g.ids.length = g.ports.length := fun e => h ⟨by omega, by omega, e⟩
      have h3b : ((g.ids.length : Int) != (g.ports.length : Int)) = true := by rw [bne_iff_ne]; omega
      clear h h3
      go_enter Try.func80, Try.ntmps80
      go_wp2_with fail
      go_ret
      exact ⟨by rw [HV.out]; rfl, (Below.refl _ _).alloc (Nat.le_refl _) _⟩
theorem ids_no {g : Graph} (h : ¬ ((∀ x ∈ g.ids, okID x = true) ∧ g.ids.Nodup)) : g.valid = false := by
  cases hv : g.valid with
  | false => rfl
  | true => exact absurd ⟨((valid_iff g).1 hv).2.1, ((valid_iff g).1 hv).2.2.1⟩ h
/-- What holds of the identifiers behind k rounds. -/
def IdsTo (g : Graph) (k : Nat) : Prop := (∀ x ∈ g.ids.take k, okID x = true) ∧ (g.ids.take k).Nodup
theorem idsTo_bad {g : Graph} {k : Nat} (hk : k < g.ids.length) (h : okID g.ids[k] = false ∨ g.ids[k] ∈ g.ids.take k) : g.valid = false := by
  refine ids_no fun ⟨h1, h2⟩ => ?_
  rcases h with h | h
  · rw [h1 _ (List.getElem_mem hk)] at h; cases h
  · obtain ⟨j, hj, e⟩ := List.mem_take_iff_getElem.1 h
    have := (List.nodup_iff_pairwise_ne.1 h2)
    exact absurd e ((List.pairwise_iff_getElem.1 this) j k (by omega) hk (by omega))
theorem idsTo_step {g : Graph} {k : Nat} (hk : k < g.ids.length) (h : IdsTo g k) (h1 : okID g.ids[k] = true) (h2 : g.ids[k] ∉ g.ids.take k) : IdsTo g (k + 1) := by
  unfold IdsTo
  rw [List.take_succ_eq_append_getElem hk]
  refine ⟨fun x hx => ?_, ?_⟩
  · rcases List.mem_append.1 hx with hx | hx
    · exact h.1 x hx
    · rw [List.mem_singleton.1 hx]; exact h1
  · rw [List.nodup_append]
    exact ⟨h.2, by simp, fun a ha b hb => by rw [List.mem_singleton.1 hb]; intro e; exact h2 (e ▸ ha)⟩
/-! ### the links -/
def EdgesTo (g : Graph) (E : List Edge) : Prop := (∀ e ∈ E, e.ok g.ports.length = true ∧ 0 ≤ e.fr ∧ e.fr < g.ports.length) ∧ (E.map Edge.key).Nodup
theorem edges_no {g : Graph} (h : ¬ ((∀ e ∈ g.edges, e.ok g.ports.length = true) ∧ (g.edges.map Edge.key).Nodup)) : g.valid = false := by
  cases hv : g.valid with
  | false => rfl
  | true => exact absurd ⟨((valid_iff g).1 hv).2.2.2.1, ((valid_iff g).1 hv).2.2.2.2.1⟩ h
/-- The links in front of port j of node v. -/
def front (g : Graph) (v j : Nat) : List Edge := edgesFrom 0 (g.ports.take v) ++ rowEdges v ((g.ports.getD v []).take j)
theorem front_zero (g : Graph) (v : Nat) : front g v 0 = edgesFrom 0 (g.ports.take v) := by simp [front, rowEdges]
theorem front_step {g : Graph} {v j : Nat} {ps : List Link} (hp : g.ports.getD v [] = ps) (hj : j < ps.length) : front g v (j + 1) = front g v j ++ [⟨v, ps[j].to_, ps[j].wt⟩] := by
  subst hp
  simp only [front, rowEdges, List.append_assoc]
  rw [List.take_succ_eq_append_getElem hj, List.map_append]
  rfl
theorem front_row {g : Graph} {v j : Nat} (hv : v < g.ports.length) (hj : (g.ports.getD v []).length ≤ j) : front g v j = edgesFrom 0 (g.ports.take (v + 1)) := by
  have e1 : g.ports.getD v [] = g.ports[v] := by simp [List.getD_eq_getElem?_getD, hv]
  rw [List.take_succ_eq_append_getElem hv, edgesFrom_append]
  have e2 : (0 : Int) + ((g.ports.take v).length : Nat) = v := by rw [List.length_take, Nat.min_eq_left (by omega)]; omega
  rw [front, List.take_of_length_le hj, e1, e2]
  simp [edgesFrom]
theorem front_edges {g : Graph} {v j : Nat} (hv : v < g.ports.length) : ∃ r, g.edges = front g v j ++ r := by
  have e1 : g.ports.getD v [] = g.ports[v] := by simp [List.getD_eq_getElem?_getD, hv]
  have e0 : g.edges = edgesFrom 0 (g.ports.take (v + 1)) ++ edgesFrom (0 + ((g.ports.take (v + 1)).length : Nat)) (g.ports.drop (v + 1)) := by rw [← edgesFrom_append, List.take_append_drop]; rfl
  rw [e0, ← front_row hv (Nat.le_refl _)]
  refine ⟨rowEdges v ((g.ports.getD v []).drop j) ++ edgesFrom (0 + ((g.ports.take (v + 1)).length : Nat)) (g.ports.drop (v + 1)), ?_⟩
  simp only [front, List.append_assoc, rowEdges, List.take_length]
  congr 1
  rw [← List.append_assoc, ← List.map_append, List.take_append_drop]
theorem front_bad {g : Graph} {v j : Nat} {ps : List Link} (hv : v < g.ports.length) (hp : g.ports.getD v [] = ps) (hj : j < ps.length)
    (h : Edge.ok g.ports.length ⟨v, ps[j].to_, ps[j].wt⟩ = false ∨ ((v : Int), ps[j].to_) ∈ (front g v j).map Edge.key) : g.valid = false := by
  refine edges_no fun ⟨h1, h2⟩ => ?_
  obtain ⟨r, hr⟩ := front_edges (g := g) (j := j + 1) hv
  rw [front_step hp hj] at hr
  rcases h with h | h
  · rw [h1 _ (by rw [hr]; simp)] at h; cases h
  · rw [hr, List.map_append, List.map_append, List.nodup_append, List.nodup_append] at h2
    exact h2.1.2.2 _ h _ (by simp [Edge.key]) rfl
theorem edgesTo_step {g : Graph} {E : List Edge} (h : EdgesTo g E) (e : Edge) (h1 : e.ok g.ports.length = true) (h0 : 0 ≤ e.fr ∧ e.fr < g.ports.length) (h2 : e.key ∉ E.map Edge.key) : EdgesTo g (E ++ [e]) := by
  refine ⟨fun d hd => ?_, ?_⟩
  · rcases List.mem_append.1 hd with hd | hd
    · exact h.1 d hd
    · rw [List.mem_singleton.1 hd]; exact ⟨h1, h0⟩
  · rw [List.map_append, List.nodup_append]
    refine ⟨h.2, by simp, fun a ha b hb => ?_⟩
    have : b = e.key := by simpa using hb
    rw [this]
    rintro rfl
    exact h2 ha
theorem edgesTo_size {g : Graph} {E : List Edge} (h : EdgesTo g E) (hn : g.ports.length ≤ 24) : E.length ≤ 576 := by
  have h1 : (E.map Edge.key).length ≤ ((List.range 24).flatMap fun (a : Nat) => (List.range 24).map fun (b : Nat) => ((a : Int), (b : Int))).length := by
    refine List.Nodup.length_le_of_subset h.2 fun x hx => ?_
    obtain ⟨e, he, rfl⟩ := List.mem_map.1 hx
    obtain ⟨h1, h2, h3⟩ := h.1 e he
    simp only [Edge.ok, decide_eq_true_eq] at h1
    simp only [List.mem_flatMap, List.mem_map, List.mem_range, Edge.key]
    exact ⟨e.fr.toNat, by omega, e.to_.toNat, by omega, by simp; omega⟩
  rw [List.length_map] at h1
  exact Nat.le_trans h1 (by decide +kernel)
/-! ### the way back -/
theorem valid_yes {g : Graph} (h1 : 1 ≤ g.ports.length ∧ g.ports.length ≤ 24 ∧ g.ids.length = g.ports.length) (h2 : IdsTo g g.ids.length) (h3 : EdgesTo g g.edges) (h4 : ∀ e ∈ g.edges, e.back g.edges = true) : g.valid = true := by
  rw [valid_iff]
  unfold IdsTo at h2
  rw [List.take_length] at h2
  exact ⟨h1, h2.1, h2.2, fun e he => (h3.1 e he).1, h3.2, h4⟩
theorem back_no {g : Graph} {e : Edge} (he : e ∈ g.edges) (h : e.back g.edges = false) : g.valid = false := by
  cases hv : g.valid with
  | false => rfl
  | true => rw [((valid_iff g).1 hv).2.2.2.2.2 e he] at h; cases h
theorem key_unique {E : List Edge} (h : (E.map Edge.key).Nodup) {d e : Edge} (hd : d ∈ E) (he : e ∈ E) (hk : d.key = e.key) : d = e := by
  induction E with
  | nil => cases hd
  | cons x r ih =>
    rw [List.map_cons, List.nodup_cons] at h
    rcases List.mem_cons.1 hd with hd | hd <;> rcases List.mem_cons.1 he with he | he
    · rw [hd, he]
    · exact absurd (List.mem_map.2 ⟨e, he, by rw [← hk, hd]⟩) h.1
    · exact absurd (List.mem_map.2 ⟨d, hd, by rw [hk, he]⟩) h.1
    · exact ih h.2 hd he
/-- The weight from the other end decides whether there is the way back. -/
theorem back_iff {E : List Edge} (h : (E.map Edge.key).Nodup) {e : Edge} (hw : e.wt ≠ 0) : e.back E = decide (weightOf E e.to_ e.fr = e.wt) := by
  unfold Edge.back
  congr 1
  refine propext ⟨fun hm => ?_, fun hm => ?_⟩
  · obtain ⟨d, hd, hk, hwd⟩ := weight_yes (E := E) (a := e.to_) (b := e.fr) (List.mem_map.2 ⟨_, hm, rfl⟩)
    rw [hwd, key_unique h hd hm (by rw [hk]; rfl)]
  · by_cases hk : (e.to_, e.fr) ∈ E.map Edge.key
    · obtain ⟨d, hd, hkd, hwd⟩ := weight_yes hk
      obtain ⟨h1, h2⟩ : d.fr = e.to_ ∧ d.to_ = e.fr := by simpa [Edge.key] using hkd
      rw [hwd] at hm
      rw [← h1, ← h2, ← hm]
      exact hd
    · rw [weight_no hk] at hm
      exact absurd hm.symm hw
set_option maxHeartbeats 2000000 in
set_option maxRecDepth 100000 in
theorem valid_late (w : World) (A0 : Option Addr) (c0 : Nat) (A1 : Option Addr) (c1 : Nat) (g : Graph) (hg : IsGraph w A0 c0 A1 c1 g) (h1 : 1 ≤ g.ports.length) (h2 : g.ports.length ≤ 24) (h3 : g.ids.length = g.ports.length) :
    Calls Try.prog 80 #[.agg #[.slice A0 g.ids.length c0, .slice A1 g.ports.length c1]] w fun e w' => e = .returned (.bool g.valid) ∧ Below w.heap.size w w' := by
  have hmk := @run_makeMap Try.prog
  have t1 : ((g.ids.length : Int) != (g.ports.length : Int)) = false := by rw [h3]; simp
  have hn : g.ids.length ≤ 24 := by omega
  have H3 := Lib.hid h3
  clear h3
  go_enter Try.func80, Try.ntmps80
  go_wp2_with fail
  go_loopw [35] (fun i wr => ∃ k : Nat, k ≤ g.ids.length ∧ i = .int .i64 k ∧ IdsTo g k ∧ HasIDs wr (w.heap.size + 1) (g.ids.take k) ∧ Below (w.heap.size + 1) (w.alloc (.cells #[.slice A0 g.ids.length c0, .slice A1 g.ports.length c1] 27)) wr) (fun i _ => g.ids.length - (intOf i).toNat)
  case atStart => exact ⟨0, Nat.zero_le _, rfl, by simp [IdsTo], by simpa using HasIDs.made (w.alloc (.cells #[.slice A0 g.ids.length c0, .slice A1 g.ports.length c1] 27)), (Below.refl _ _).alloc (by simp) _⟩
  case round =>
    obtain ⟨k, hk, rfl, hi, hm, hb⟩ := hrel
    obtain ⟨hc, hf⟩ := bcell hb
    have hB := Lib.hid (((Below.refl w.heap.size w).alloc (Nat.le_refl _) (.cells #[.slice A0 g.ids.length c0, .slice A1 g.ports.length c1] 27)).trans (hb.mono (Nat.le_succ _)))
    have Hg := Lib.hid (hg.below hB.out)
    by_cases hlt : k < g.ids.length
    · obtain ⟨x, hx⟩ : ∃ x, g.ids[k] = x := ⟨_, rfl⟩
      obtain ⟨ad, hA, hcell⟩ := Kd.at_int Hg.out.ids k hlt
      rw [hx] at hcell
      cases hA
      have HX := Lib.hid hx
      have HM := Lib.hid hm
      have HI := Lib.hid hi
      clear hx hm hi hg
      by_cases x0 : x < 0
      · have HV := Lib.hid (idsTo_bad hlt (.inl (by rw [HX.out]; simp [okID]; omega)))
        go_wp2_with fail
        go_ret
        exact ⟨by rw [HV.out]; rfl, hB.out⟩
      · by_cases x1 : 255 < x
        · have HV := Lib.hid (idsTo_bad hlt (.inl (by rw [HX.out]; simp [okID]; omega)))
          go_wp2_with fail
          go_ret
          exact ⟨by rw [HV.out]; rfl, hB.out⟩
        · have wx : (Lit.int .i64 x).wf = true := wf_of (by omega) (by omega)
          have hrun := HM.out.look wx
          by_cases x2 : x ∈ g.ids.take k
          · rw [decide_eq_true x2] at hrun
            have HV := Lib.hid (idsTo_bad hlt (.inr (by rw [HX.out]; exact x2)))
            clear x2 wx
            go_wp2_with fail
            go_ret
            exact ⟨by rw [HV.out]; rfl, hB.out⟩
          · rw [decide_eq_false x2] at hrun
            have HN := Lib.hid (idsTo_step hlt HI.out (by rw [HX.out]; simp [okID]; omega) (by rw [HX.out]; exact x2))
            have WX := Lib.hid wx
            obtain ⟨D, hD, hD2, hD3⟩ := HM.out
            have HD := Lib.hid hD
            have HD2 := Lib.hid hD2
            have HD3 := Lib.hid hD3
            clear x2 wx hD hD2 hD3
            go_wp2_with (at_mapUpdate; go_must (refine wpList_mapUpdate_own _ rfl _ _ _ 81 rfl 3 4 lawInt Try.underlying81 _ (w.heap.size + 1) _ _ rfl HD.out (by have := H3.out; unfold maxLen; simp; omega) _ _ _ rfl rfl (keyOf_int_mk Try.underlying3 WX.out) _ [] (plainElem_bool Try.underlying4 true) ?_); intro w1 hown1 hgrow1)
            go_roundw
            case rel =>
              refine ⟨k + 1, by omega, by go_num, HN.out, ?_, ?_⟩
              · rw [List.take_succ_eq_append_getElem hlt, HX.out]
                exact HasIDs.put HD2.out HD3.out HD.out.isMap WX.out hown1
              · exact hb.grown hgrow1 (by have := hb.size; simp at this; omega) (by simp)
            case measure => simp [intOf]; omega
    · obtain ⟨wa, rfl⟩ : ∃ wa : World, wa = wr := ⟨_, rfl⟩
      have HI := Lib.hid (show IdsTo g g.ids.length by rw [show g.ids.length = k from by omega]; exact hi)
      have hge : g.ids.length ≤ k := by omega
      have hz := hb.size
      simp only [World.size_alloc] at hz
      have hc1 : wa.cell? ⟨w.heap.size, 1, none⟩ = some (.slice A1 g.ports.length c1) := by rw [hc _ _ (Nat.lt_succ_self _)]; go_simp
      have HB := Lib.hid hb
      have hz1 : w.heap.size < wa.heap.size := by omega
      clear hi hm hg hlt hb hc hf
      go_wp2_with fail
      go_loopw [57] (fun i wv => ∃ v : Nat, v ≤ g.ports.length ∧ i = .int .i64 v ∧ EdgesTo g (edgesFrom 0 (g.ports.take v)) ∧ HasLinks wv wa.heap.size (edgesFrom 0 (g.ports.take v)) ∧ Below wa.heap.size wa wv) (fun i _ => g.ports.length - (intOf i).toNat)
      case atStart => exact ⟨0, Nat.zero_le _, rfl, by simp [EdgesTo, edgesFrom], by simpa [edgesFrom] using HasLinks.made wa, (Below.refl _ _).alloc (Nat.le_refl _) _⟩
      case round =>
        obtain ⟨wv, rfl⟩ : ∃ wv : World, wv = wr := ⟨_, rfl⟩
        obtain ⟨v, hv, rfl, he, hm, hb⟩ := hrel
        have hc1v : wv.cell? ⟨w.heap.size, 1, none⟩ = some (.slice A1 g.ports.length c1) := (bcell hb).1 _ _ (by omega) ▸ hc1
        have hzv := hb.size
        have hltv : wa.heap.size < wv.heap.size := by
          obtain ⟨D0, hD0, _⟩ := hm
          exact hD0.lt
        by_cases hlt : v < g.ports.length
        · obtain ⟨ad, A2, c2, hA, hcell, hl2, hC2⟩ := Kd.at_slice Hg.out.ports v hlt
          cases hA
          replace hcell := cell_keeps (keeps_of hb) hcell
          obtain ⟨ps, hps⟩ : ∃ ps, g.ports[v] = ps := ⟨_, rfl⟩
          rw [hps] at hcell hl2 hC2
          have hp : g.ports.getD v [] = ps := by rw [← hps]; simp [List.getD_eq_getElem?_getD, hlt]
          have HP := Lib.hid hp
          have HC2 := Lib.hid hC2
          have HM := Lib.hid hm
          have HE := Lib.hid he
          have HBV := Lib.hid hb
          have hpm := Kd.C_max hC2
          clear hp hps hC2 hm he hb
          go_wp2_with fail
          go_loopw [64] (fun i wi => ∃ j : Nat, j ≤ ps.length ∧ i = .int .i64 j ∧ EdgesTo g (front g v j) ∧ HasLinks wi wa.heap.size (front g v j) ∧ Below wa.heap.size wa wi) (fun i _ => ps.length - (intOf i).toNat)
          case atStart => exact ⟨0, Nat.zero_le _, rfl, by rw [front_zero]; exact HE.out, by rw [front_zero]; exact HM.out, HBV.out⟩
          case round =>
            obtain ⟨wi, rfl⟩ : ∃ wi : World, wi = wr := ⟨_, rfl⟩
            obtain ⟨j, hj, rfl, he, hm, hb⟩ := hrel
            have hzi := hb.size
            have hlti : wa.heap.size < wi.heap.size := by
              obtain ⟨D0, hD0, _⟩ := hm
              exact hD0.lt
            by_cases hjl : j < ps.length
            · have hci := Kd.C_below HC2.out hb
              obtain ⟨x, y, hxy⟩ : ∃ x y, ps[j] = ⟨x, y⟩ := ⟨_, _, rfl⟩
              obtain ⟨ad2, hA2, hx, hy⟩ := at_link hci j hjl
              rw [hxy] at hx hy
              cases hA2
              have HF : Hid (Edge.ok g.ports.length ⟨v, x, y⟩ = false ∨ ((v : Int), x) ∈ (front g v j).map Edge.key → g.valid = false) := fun h => front_bad hlt HP.out hjl (by rw [hxy]; exact h)
              have HS := Lib.hid (front_step HP.out hjl)
              rw [hxy] at HS
              have HB2 := Lib.hid (hB.out.trans (hb.mono (Nat.le_of_lt hz1)))
              have HM := Lib.hid hm
              have HE := Lib.hid he
              have HBI := Lib.hid hb
              clear hxy hci hm he hb
              by_cases x0 : x < 0
              · have HV := Lib.hid (HF.out (.inl (by simp [Edge.ok]; omega)))
                go_wp2_with fail
                go_ret
                exact ⟨by rw [HV.out]; rfl, (HB2.out.alloc (by omega) _).alloc (by simp; omega) _⟩
              · by_cases x1 : (g.ports.length : Int) ≤ x
                · have HV := Lib.hid (HF.out (.inl (by simp [Edge.ok]; omega)))
                  go_wp2_with fail
                  go_ret
                  exact ⟨by rw [HV.out]; rfl, (HB2.out.alloc (by omega) _).alloc (by simp; omega) _⟩
                · by_cases x2 : x = v
                  · have x2b : ((x : Int) == (v : Int)) = true := by simp [x2]
                    have HV := Lib.hid (HF.out (.inl (by simp [Edge.ok, x2])))
                    clear x2
                    go_wp2_with fail
                    go_ret
                    exact ⟨by rw [HV.out]; rfl, (HB2.out.alloc (by omega) _).alloc (by simp; omega) _⟩
                  · have x2b : ((x : Int) == (v : Int)) = false := by simp [x2]
                    have HX2 := Lib.hid x2
                    clear x2
                    by_cases x3 : y < 1
                    · have HV := Lib.hid (HF.out (.inl (by simp [Edge.ok]; omega)))
                      go_wp2_with fail
                      go_ret
                      exact ⟨by rw [HV.out]; rfl, (HB2.out.alloc (by omega) _).alloc (by simp; omega) _⟩
                    · by_cases x4 : 15 < y
                      · have HV := Lib.hid (HF.out (.inl (by simp [Edge.ok]; omega)))
                        go_wp2_with fail
                        go_ret
                        exact ⟨by rw [HV.out]; rfl, (HB2.out.alloc (by omega) _).alloc (by simp; omega) _⟩
                      · have wv : (Lit.int .i64 (v : Int)).wf = true := wf_of (by omega) (by omega)
                        have wx : (Lit.int .i64 x).wf = true := wf_of (by omega) (by omega)
                        have wy : (Lit.int .i64 y).wf = true := wf_of (by omega) (by omega)
                        obtain ⟨D, hD, hS⟩ := HM.out
                        have hrun : ∀ o1 o2, (Instr.lookup 82 (.map (some wa.heap.size)) (.agg #[.int .i64 v, .int .i64 x]) false).run Try.prog ((wi.alloc o1).alloc o2) = .ok (.int .i64 (weightOf (front g v j) v x)) ((wi.alloc o1).alloc o2) := fun o1 o2 => own_look ((hD.alloc o1).alloc o2) hS wv wx
                        by_cases x5 : ((v : Int), x) ∈ (front g v j).map Edge.key
                        · have hw : ((weightOf (front g v j) v x) != 0) = true := by
                            obtain ⟨e, hee, _, hwe⟩ := weight_yes x5
                            have := (HE.out.1 e hee).1
                            simp only [Edge.ok, decide_eq_true_eq] at this
                            rw [hwe, bne_iff_ne]
                            omega
                          have HV := Lib.hid (HF.out (.inr x5))
                          generalize weightOf (front g v j) v x = c at hrun hw
                          clear x5 hD hS wv wx wy
                          go_wp2_with fail
                          go_ret
                          exact ⟨by rw [HV.out]; rfl, (HB2.out.alloc (by omega) _).alloc (by simp; omega) _⟩
                        · rw [weight_no x5] at hrun
                          have HD := Lib.hid hD
                          have HSS := Lib.hid hS
                          have WV := Lib.hid wv
                          have WX := Lib.hid wx
                          have WY := Lib.hid wy
                          have X5 := Lib.hid x5
                          have hsz := edgesTo_size HE.out h2
                          clear x5 hD hS wv wx wy
                          go_wp2_with (at_mapUpdate; go_must (refine wpList_mapUpdate_own _ rfl _ _ _ 82 rfl 84 3 lawEnd Try.underlying82 _ wa.heap.size _ _ rfl ((HD.out.alloc _).alloc _) (by unfold maxLen; omega) _ _ _ rfl rfl (keyOf_end WV.out WX.out) _ [] (plainElem_int Try.underlying3 WY.out) ?_); intro w1 hown1 hgrow1)
                          go_roundw
                          case rel =>
                            refine ⟨_, _, _, _, ⟨j + 1, by omega, rfl, ?_, ⟨D.put (ek v x) (.lit (.int .i64 y)), ?_, ?_⟩, ?_⟩, rfl, rfl, rfl, by go_num⟩
                            · rw [HS.out]; exact edgesTo_step HE.out _ (by simp [Edge.ok]; exact ⟨by omega, by omega, HX2.out, by omega, by omega⟩) ⟨by simp, by simp; omega⟩ X5.out
                            · rw [HS.out, List.length_append]; exact hown1
                            · rw [HS.out]; exact HSS.out.put ⟨v, x, y⟩ WV.out WX.out X5.out
                            · exact ((HBI.out.alloc (by omega) _).alloc (by simp; omega) _).grown hgrow1 (by simp; omega) (by simp)
                          case measure => simp [intOf]; omega
            · have hjg : ps.length ≤ j := by omega
              have HE := Lib.hid (show EdgesTo g (edgesFrom 0 (g.ports.take (v + 1))) by rw [← front_row hlt (by rw [HP.out]; exact hjg)]; exact he)
              have HM := Lib.hid (show HasLinks wi wa.heap.size (edgesFrom 0 (g.ports.take (v + 1))) by rw [← front_row hlt (by rw [HP.out]; exact hjg)]; exact hm)
              have HBI := Lib.hid hb
              clear hjl he hm hb
              go_wp2_with fail
              go_roundw
              case rel => exact ⟨v + 1, by omega, by go_num, HE.out, HM.out, HBI.out⟩
              case measure => simp [intOf]; omega
        · have hvg : g.ports.length ≤ v := by omega
          have hall : edgesFrom 0 (g.ports.take v) = g.edges := by rw [List.take_of_length_le hvg]; rfl
          rw [hall] at he hm
          obtain ⟨D, hD, hS⟩ := hm
          have HE := Lib.hid he
          have HSS := Lib.hid hS
          have HD := Lib.hid hD
          have HBV := Lib.hid hb
          clear hall hlt he hD hS hb
          go_wp2_with (at_range; go_must (refine wpList_range_own _ rfl _ 82 rfl 84 3 lawEnd Try.underlying82 _ wa.heap.size _ D rfl HD.out ?_); intro w0 hrg0 hg0 hs0)
          go_frame
          obtain ⟨wb, rfl⟩ : ∃ wb : World, wb = wv := ⟨_, rfl⟩
          go_loopw [14] (fun _ wr => ∃ (left : Lit → Bool) (cnt : Nat), wr.ranges Try.prog 84 (plainElem Try.prog 3) wa.heap.size wb.heap.size g.edges.length D left cnt ∧ (∀ e ∈ g.edges, left (ek e.fr e.to_) = false → e.back g.edges = true) ∧ Below wa.heap.size wa wr) (fun _ wr => wr.rangeLeft wa.heap.size wb.heap.size)
          case atStart =>
            refine ⟨_, _, hrg0, fun e he hl => ?_, HBV.out.grown hg0 (by omega) (by simp)⟩
            rw [has_true_of_atKey (HSS.out.at_ e he)] at hl
            cases hl
          case round =>
            obtain ⟨left, cnt, hrg, hback, hb⟩ := hrel
            have HBK := Lib.hid hback
            have HBR := Lib.hid hb
            have HBW := Lib.hid (hB.out.trans (hb.mono (Nat.le_of_lt hz1)))
            have HRG := Lib.hid hrg
            have hlr := hrg.lt
            have hzr := hb.size
            clear hback hb hrg hrg0
            go_wp2_with (at_next; go_must (refine wpList_next_ranges _ rfl _ rfl 84 lawEnd (plainElem Try.prog 3) (fun p : Int × Int => .agg #[.int .i64 p.1, .int .i64 p.2]) (Value.int .i64) (fun key kl hk => by obtain ⟨a, b, e, _⟩ := keyOf_end_inv hk; exact ⟨(a, b), e⟩) (fun v y hv => by obtain ⟨c, e, _⟩ := plainElem_int_inv Try.underlying3 hv; exact ⟨c, e⟩) wa.heap.size wb.heap.size _ D left cnt rfl HRG.out ?_ ?_))
            · intro hc0 hl0
              have HV := Lib.hid (valid_yes ⟨h1, h2, H3.out⟩ HI.out HE.out fun e he => HBK.out e he (hl0 _))
              go_wp2_with fail
              go_ret
              exact ⟨by rw [HV.out]; rfl, HBW.out⟩
            · intro a b c kl y1 y2 w1 cnt1 hkey hlk hv hat hrg1 hlt1 hg1 hs1 hen
              obtain ⟨a', b', e1, wa', wb', rfl⟩ := keyOf_end_inv hkey
              obtain ⟨rfl, rfl⟩ : a = a' ∧ b = b' := by simpa using e1
              obtain ⟨c', e2, e3, _⟩ := plainElem_int_inv Try.underlying3 hv
              obtain rfl : c = c' := by simpa using e2
              obtain ⟨rfl, rfl⟩ : y1 = .lit (.int .i64 c) ∧ y2 = [] := by simpa using e3
              have hmem : (⟨a, b, c⟩ : Edge) ∈ g.edges := by
                have h1 := has_true_of_atKey hat
                by_cases hk : (a, b) ∈ g.edges.map Edge.key
                · obtain ⟨e, he, hke, _⟩ := weight_yes hk
                  obtain ⟨rfl, rfl⟩ : e.fr = a ∧ e.to_ = b := by simpa [Edge.key] using hke
                  have := HSS.out.at_ e he (.lit (.int .i64 0))
                  rw [hat] at this
                  have : c = e.wt := by simpa using this
                  rw [this]; exact he
                · rw [HSS.out.no a b wa' wb' hk] at h1; cases h1
              have hc1 : c ≠ 0 := by
                have := (HE.out.1 _ hmem).1
                simp only [Edge.ok, decide_eq_true_eq] at this
                omega
              have hrun : ∀ o, (Instr.lookup 82 (.map (some wa.heap.size)) (.agg #[.int .i64 b, .int .i64 a]) false).run Try.prog (w1.alloc o) = .ok (.int .i64 (weightOf g.edges b a)) (w1.alloc o) := fun o => own_look (hrg1.owns.alloc o) HSS.out wb' wa'
              have HBI := Lib.hid (back_iff HE.out.2 (e := ⟨a, b, c⟩) hc1)
              have HMEM := Lib.hid hmem
              have HB1 := Lib.hid (HBR.out.grown hg1 (by omega) (by intro q hq; cases hq; omega))
              have HB2 := Lib.hid (HBW.out.grown hg1 (by omega) (by intro q hq; cases hq; omega))
              by_cases hwt : weightOf g.edges b a = c
              · have hwb : (weightOf g.edges b a != c) = false := by simp [hwt]
                have HWT := Lib.hid hwt
                have HRG1 := Lib.hid hrg1
                generalize weightOf g.edges b a = c2 at hrun hwb
                have HKEYS : Hid (∀ e ∈ g.edges, (left (ek e.fr e.to_) && !(ek e.fr e.to_).sameKey (ek a b)) = false → e.back g.edges = true) := fun e he hl => by
                  by_cases hs : (ek e.fr e.to_).sameKey (ek a b) = true
                  · have hs' : ek e.fr e.to_ = ek a b := by simpa [ek, Lit.sameKey] using hs
                    obtain ⟨h5, h6⟩ := ek_inj (HSS.out.wf e he).1 (HSS.out.wf e he).2 wa' wb' hs'
                    rw [key_unique HE.out.2 he hmem (by simp [Edge.key, h5, h6]), HBI.out, HWT.out]
                    simp
                  · rw [Bool.not_eq_true] at hs
                    rw [hs] at hl
                    exact HBK.out e he (by simpa using hl)
                clear hwt hc1 hmem hat hrg1 hv hkey hlk wa' wb' hg1 e1 e2 e3
                go_wp2_with fail
                go_roundw
                case rel => exact ⟨_, ⟨cnt1, HRG1.out.alloc _⟩, HKEYS.out, HB1.out.alloc (by omega) _⟩
                case measure => rw [(HRG1.out.alloc _).left_eq, HRG.out.left_eq]; exact hlt1
              · have hwb : (weightOf g.edges b a != c) = true := by simp [hwt]
                have HV := Lib.hid (back_no HMEM.out (by rw [HBI.out]; simp [hwt]))
                generalize weightOf g.edges b a = c2 at hrun hwb
                clear hwt hc1 hmem hat hrg1 hv hkey hlk wa' wb' hg1 e1 e2 e3
                go_wp2_with fail
                go_ret
                exact ⟨by rw [HV.out]; rfl, HB2.out.alloc (by omega) _⟩
theorem valid_calls (w : World) (A0 : Option Addr) (c0 : Nat) (A1 : Option Addr) (c1 : Nat) (g : Graph) (hg : IsGraph w A0 c0 A1 c1 g) :
    Calls Try.prog 80 #[.agg #[.slice A0 g.ids.length c0, .slice A1 g.ports.length c1]] w fun e w' => e = .returned (.bool g.valid) ∧ Below w.heap.size w w' := by
  by_cases h : 1 ≤ g.ports.length ∧ g.ports.length ≤ 24 ∧ g.ids.length = g.ports.length
  · exact valid_late w A0 c0 A1 c1 g hg h.1 h.2.1 h.2.2
  · exact valid_early w A0 c0 A1 c1 g h
end Go.Proofs.Ythapikakneikbaa
/-
  From the printed texts' words on memory (rows that are read) to those of the texts written by hand.
-/
namespace Go.Proofs.YthapikakneikbaaG
open Go.RowKit
abbrev PKd := Go.Proofs.YthapikakneikbaaW.PrintWords.Kd
abbrev HKd := Go.Proofs.Ythapikakneikbaa.Kd
/-- What is of kind d is, by f, of the kind d' of the texts by hand. -/
structure Br {α β : Type} (d : PKd α) (d' : HKd β) (f : α → β) : Prop where
  sz : d.sz = d'.sz
  K : ∀ {w : World} {x : α} {c : List Value}, d.K w x c → d'.K w (f x) c
theorem Br.C {α β : Type} {d : PKd α} {d' : HKd β} {f : α → β} (b : Br d d' f) {w : World} {A : Option Addr} {n : Nat} {xs : List α} (h : Go.Proofs.YthapikakneikbaaW.PrintWords.Kd.C d w A n xs) : Go.Proofs.Ythapikakneikbaa.Kd.C d' w A (xs.map f) := by
  obtain ⟨hl, hm, hc⟩ := h
  subst hl
  refine ⟨by simpa using hm, fun h0 => ?_⟩
  obtain ⟨ad, e, hr⟩ := hc (by simpa using h0)
  refine ⟨ad, e, fun j y hy => ?_⟩
  rw [List.getElem?_map] at hy
  obtain ⟨x, hx, rfl⟩ := Option.map_eq_some_iff.1 hy
  obtain ⟨c, _, hK, hcell⟩ := hr j x hx
  rw [b.sz] at hcell
  exact ⟨c, b.K hK, hcell⟩
theorem Br.int (k : IntKind) : Br (Go.Proofs.YthapikakneikbaaW.PrintWords.Kd.int k) (Go.Proofs.Ythapikakneikbaa.Kd.int k) id := ⟨rfl, fun h => h⟩
theorem Br.slice {α β : Type} {d : PKd α} {d' : HKd β} {f : α → β} (b : Br d d' f) (e : Nat) : Br (Go.Proofs.YthapikakneikbaaW.PrintWords.Kd.slice e d) d'.slice (List.map f) := ⟨rfl, fun h => by
  obtain ⟨A, c, rfl, hl, hC⟩ := h
  exact ⟨_, rfl, A, c, by rw [List.length_map], by simpa using hl, b.C hC⟩⟩
def toL (s : S60) : Go.Proofs.Ythapikakneikbaa.Link := ⟨s.f0, s.f1⟩
def toG (ids : List Int) (ports : List (List S60)) : Go.Proofs.Ythapikakneikbaa.Graph := ⟨ids, ports.map (List.map toL)⟩
theorem Br.link : Br k60 Go.Proofs.Ythapikakneikbaa.kLink toL := ⟨rfl, fun h => h⟩
theorem C_ints {w : World} {k : IntKind} {A : Option Addr} {n : Nat} {xs : List Int} (h : Go.Proofs.YthapikakneikbaaW.PrintWords.Kd.C (Go.Proofs.YthapikakneikbaaW.PrintWords.Kd.int k) w A n xs) : (Go.Proofs.Ythapikakneikbaa.Kd.int k).C w A xs := by
  have := (Br.int k).C h
  rwa [List.map_id] at this
/-- A graph that is read. -/
theorem isGraph {w : World} {A0 A1 : Option Addr} {c0 c1 : Nat} {ids : List Int} {ports : List (List S60)} (h0 : Go.Proofs.YthapikakneikbaaW.PrintWords.Kd.C (Go.Proofs.YthapikakneikbaaW.PrintWords.Kd.int .i64) w A0 ids.length ids) (l0 : ids.length ≤ c0)
    (h1 : Go.Proofs.YthapikakneikbaaW.PrintWords.Kd.C (Go.Proofs.YthapikakneikbaaW.PrintWords.Kd.slice 60 k60) w A1 ports.length ports) (l1 : ports.length ≤ c1) : Go.Proofs.Ythapikakneikbaa.IsGraph w A0 c0 A1 c1 (toG ids ports) :=
  ⟨C_ints h0, l0, (Br.link.slice _).C h1, by simpa [toG] using l1⟩
end Go.Proofs.YthapikakneikbaaG
/-
  Plain laws for the printed functions: numbers, bits, rounds. No memory in this text.
-/
namespace Go.Proofs.YthapikakneikbaaG
open Go.RowKit Go.Proofs.YthapikakneikbaaW.PrintWords Go.Proofs.YthapikakneikbaaW.PrintMore
open Go.Proofs.Ythapikakneikbaa (bitsOf bitsOf_lt bitsOf_small testBit_bitsOf)
theorem wrap_id {x : Int} (h0 : -9223372036854775808 ≤ x) (h1 : x ≤ 9223372036854775807) : wrap64 x = x := by unfold wrap64; omega
theorem pow_lt32 {v : Nat} (h : v < 32) : (2 ^ v : Nat) < 4294967296 := (Nat.pow_lt_pow_right (by omega) h : 2 ^ v < 2 ^ 32)
theorem shl_bit {v : Nat} (h : v < 32) : shl .u32 1 (v : Int) = ((2 ^ v : Nat) : Int) := by
  have h1 := pow_lt32 h
  unfold shl
  rw [Int.toNat_natCast, show min v (IntKind.u32.bits) = v from Nat.min_eq_left (Nat.le_of_lt h), IntKind.wrap_u32, Int.one_mul]
  have : ((2 : Int) ^ v) = ((2 ^ v : Nat) : Int) := by simp
  rw [this]
  generalize (2 ^ v : Nat) = m at h1
  omega
theorem get_bit {s v : Nat} (hs : s < 4294967296) (h : v ≤ 32) : Go.bits .and .u32 (shr .u32 (s : Int) (v : Int)) 1 = if s.testBit v then 1 else 0 := by
  unfold shr
  rw [Int.toNat_natCast, show min v (IntKind.u32.bits) = v from Nat.min_eq_left h]
  exact Go.Proofs.Ythapikakneikbaa.shr_and hs
/-! ### rounds -/
theorem Ev.some {α : Type} {r : α} : Ev (fun _ => Option.some r) r := ⟨0, fun _ _ => rfl⟩
theorem Ev.some' {α : Type} {a r : α} (h : a = r) : Ev (fun _ => Option.some a) r := h ▸ ⟨0, fun _ _ => rfl⟩
/-- A function without rounds, in front. -/
theorem Ev.bindc {α β : Type} {g : Option α} {f : Nat → α → Option β} {a : α} {r : β} (h : g = Option.some a) (k : Ev (fun n => f n a) r) : Ev (fun n => g.bind (f n)) r := by
  subst h
  exact k
theorem Ev.value {α : Type} {g : Nat → Option α} {r s : α} (h : Ev g r) (e : r = s) : Ev g s := e ▸ h
/-! ### rows -/
theorem rd_nat {xs : List Int} {i : Nat} (h : i < xs.length) : rd xs (i : Int) = xs[i] := by
  unfold rd
  rw [Int.toNat_natCast, List.getD_eq_getElem?_getD, List.getElem?_eq_getElem h]
  rfl
theorem rd_getD {xs : List Int} {i : Nat} : rd xs (i : Int) = xs.getD i 0 := by
  unfold rd
  rw [Int.toNat_natCast]
theorem rdRow_nat {c : List (List Int)} {i : Nat} : rd_L3 c (i : Int) = c.getD i [] := by
  show c.getD (i : Int).toNat [] = _
  rw [Int.toNat_natCast]
theorem rdPorts_nat {p : List (List S60)} {i : Nat} : rd_L2 p (i : Int) = p.getD i [] := by
  show p.getD (i : Int).toNat [] = _
  rw [Int.toNat_natCast]
theorem rdLink_nat {r : List S60} {i : Nat} (h : i < r.length) : rd_T60 r (i : Int) = r[i] := by
  show r.getD (i : Int).toNat _ = _
  rw [Int.toNat_natCast, List.getD_eq_getElem?_getD, List.getElem?_eq_getElem h]
  rfl
theorem toG_len (ids : List Int) (p : List (List S60)) : (toG ids p).ports.length = p.length := by simp [toG]
theorem toG_row (ids : List Int) (p : List (List S60)) (v : Nat) : (toG ids p).ports.getD v [] = (p.getD v []).map toL := by
  simp only [toG, List.getD_eq_getElem?_getD, List.getElem?_map]
  cases p[v]? <;> rfl
theorem toG_ids (ids : List Int) (p : List (List S60)) : (toG ids p).ids = ids := rfl
/-- Of a valid graph: the sizes, and where the links lead. -/
theorem valid_size {ids : List Int} {p : List (List S60)} (h : (toG ids p).valid = true) : 1 ≤ p.length ∧ p.length ≤ 24 ∧ ids.length = p.length := by
  have := ((Go.Proofs.Ythapikakneikbaa.valid_iff _).1 h).1
  rwa [toG_len] at this
theorem valid_to {ids : List Int} {p : List (List S60)} (h : (toG ids p).valid = true) {v : Nat} (hv : v < p.length) {l : S60} (hl : l ∈ p[v]) : 0 ≤ l.f0 ∧ l.f0 < p.length ∧ l.f0 ≠ v := by
  have h4 := ((Go.Proofs.Ythapikakneikbaa.valid_iff _).1 h).2.2.2.1 ⟨v, l.f0, l.f1⟩ (by
    unfold Go.Proofs.Ythapikakneikbaa.Graph.edges
    rw [Go.Proofs.Ythapikakneikbaa.mem_edgesFrom]
    refine ⟨v, p[v].map toL, by simp [toG, hv], by simp, ?_⟩
    exact List.mem_map.2 ⟨l, hl, rfl⟩)
  rw [toG_len] at h4
  simp only [Go.Proofs.Ythapikakneikbaa.Edge.ok, decide_eq_true_eq] at h4
  exact ⟨h4.1, h4.2.1, h4.2.2.1⟩
/-- Each link is seen from its other end, too. -/
theorem valid_back {ids : List Int} {p : List (List S60)} (h : (toG ids p).valid = true) {v u : Nat} (hv : v < p.length) (hu : u < p.length) (hl : ∃ l ∈ p[v], l.f0 = u) : ∃ l ∈ p[u], l.f0 = v := by
  obtain ⟨l, hl, e⟩ := hl
  have h6 := ((Go.Proofs.Ythapikakneikbaa.valid_iff _).1 h).2.2.2.2.2 ⟨v, l.f0, l.f1⟩ (by
    unfold Go.Proofs.Ythapikakneikbaa.Graph.edges
    rw [Go.Proofs.Ythapikakneikbaa.mem_edgesFrom]
    refine ⟨v, p[v].map toL, by simp [toG, hv], by simp, ?_⟩
    exact List.mem_map.2 ⟨l, hl, rfl⟩)
  unfold Go.Proofs.Ythapikakneikbaa.Edge.back at h6
  have h7 := of_decide_eq_true h6
  unfold Go.Proofs.Ythapikakneikbaa.Graph.edges at h7
  rw [Go.Proofs.Ythapikakneikbaa.mem_edgesFrom] at h7
  obtain ⟨k, ps, h8, h9, h10⟩ := h7
  simp only [e, Int.zero_add, Int.natCast_inj] at h9
  subst h9
  simp only [toG, List.getElem?_map, List.getElem?_eq_getElem hu, Option.map_some, Option.some.injEq] at h8
  subst h8
  obtain ⟨l', hl', e'⟩ := List.mem_map.1 h10
  refine ⟨l', hl', ?_⟩
  have : (toL l').to_ = (v : Int) := by rw [e']
  exact this
theorem row_small {ids : List Int} {p : List (List S60)} (h : (toG ids p).valid = true) {v : Nat} (hv : v < p.length) : p[v].length ≤ 576 := by
  obtain ⟨h1, h2, h3, h4, h5, h6⟩ := (Go.Proofs.Ythapikakneikbaa.valid_iff _).1 h
  have hsz : (toG ids p).edges.length ≤ 576 := Go.Proofs.Ythapikakneikbaa.edgesTo_size (g := toG ids p) (E := (toG ids p).edges) ⟨fun e he => ⟨h4 e he, by
    unfold Go.Proofs.Ythapikakneikbaa.Graph.edges at he
    rw [Go.Proofs.Ythapikakneikbaa.mem_edgesFrom] at he
    obtain ⟨k, ps, e1, e2, _⟩ := he
    have := (List.getElem?_eq_some_iff.1 e1).1
    omega⟩, h5⟩ h1.2.1
  have hin : ((p[v].map toL).map fun l => (⟨(v : Int), l.to_, l.wt⟩ : Go.Proofs.Ythapikakneikbaa.Edge)).length ≤ (toG ids p).edges.length := by
    have e : (toG ids p).edges = Go.Proofs.Ythapikakneikbaa.edgesFrom 0 ((toG ids p).ports.take v) ++ (Go.Proofs.Ythapikakneikbaa.rowEdges v (p[v].map toL) ++ Go.Proofs.Ythapikakneikbaa.edgesFrom (0 + v + 1) ((toG ids p).ports.drop (v + 1))) := by
      have hl : v < (toG ids p).ports.length := by rw [toG_len]; exact hv
      have hr : (toG ids p).ports[v] = p[v].map toL := by simp [toG]
      unfold Go.Proofs.Ythapikakneikbaa.Graph.edges
      conv => lhs; rw [← List.take_append_drop v (toG ids p).ports, Go.Proofs.Ythapikakneikbaa.edgesFrom_append, List.drop_eq_getElem_cons hl, hr]
      rw [List.length_take, Nat.min_eq_left (Nat.le_of_lt hl)]
      simp only [Go.Proofs.Ythapikakneikbaa.edgesFrom, Int.zero_add]
    rw [e]
    simp only [List.length_append, Go.Proofs.Ythapikakneikbaa.rowEdges, List.length_map]
    omega
  simp only [List.length_map] at hin
  omega
end Go.Proofs.YthapikakneikbaaG
/-
  shape.Where, graph.around, graph.Neighbours.
-/
namespace Go.Proofs.Ythapikakneikbaa
open Go.RowKit
abbrev Conf := List (List Int)
abbrev kConf : Kd (List Int) := Kd.slice (Kd.int .i64)
/-- The value of variable x at node v. -/
def vl (c : Conf) (v x : Nat) : Int := (c.getD v []).getD x 0
theorem vl_at {c : Conf} {v x : Nat} (hv : v < c.length) (hx : x < c[v].length) : vl c v x = c[v][x] := by
  simp [vl, List.getD_eq_getElem?_getD, hv, hx]
end Go.Proofs.Ythapikakneikbaa
/-
  shape.Holds.
-/
namespace Go.Proofs.Ythapikakneikbaa
open Go.RowKit
/-- Is a value in range? high = -1 stands for a port of a node of so many ports. -/
def inRange (deg : Nat) (high value : Int) : Bool := if high = -1 then decide (-1 ≤ value ∧ value < deg) else decide (0 ≤ value ∧ value ≤ high)
def rowOK (deg : Nat) (most r : List Int) : Bool := r.length == most.length && (List.range r.length).all fun x => inRange deg (most.getD x 0) (r.getD x 0)
/-- c has a state for each node, with values in range. -/
def holdsB (g : Graph) (c : Conf) (most : List Int) : Bool := c.length == g.ports.length && (List.range c.length).all fun v => rowOK (g.ports.getD v []).length most (c.getD v [])
theorem row_bad {deg : Nat} {most r : List Int} (h : r.length ≠ most.length ∨ ∃ x, x < r.length ∧ inRange deg (most.getD x 0) (r.getD x 0) = false) : rowOK deg most r = false := by
  cases hr : rowOK deg most r with
  | false => rfl
  | true =>
    simp only [rowOK, Bool.and_eq_true, beq_iff_eq, List.all_eq_true, List.mem_range] at hr
    rcases h with h | ⟨x, hx, h⟩
    · exact absurd hr.1 h
    · rw [hr.2 x hx] at h; cases h
theorem holds_bad {g : Graph} {c : Conf} {most : List Int} (h : c.length ≠ g.ports.length ∨ ∃ v, v < c.length ∧ rowOK (g.ports.getD v []).length most (c.getD v []) = false) : holdsB g c most = false := by
  cases hr : holdsB g c most with
  | false => rfl
  | true =>
    simp only [holdsB, Bool.and_eq_true, beq_iff_eq, List.all_eq_true, List.mem_range] at hr
    rcases h with h | ⟨x, hx, h⟩
    · exact absurd hr.1 h
    · rw [hr.2 x hx] at h; cases h
theorem row_good {deg : Nat} {most r : List Int} (h1 : r.length = most.length) (h : ∀ x, x < r.length → inRange deg (most.getD x 0) (r.getD x 0) = true) : rowOK deg most r = true := by
  simp only [rowOK, Bool.and_eq_true, beq_iff_eq, List.all_eq_true, List.mem_range]; exact ⟨h1, h⟩
theorem holds_good {g : Graph} {c : Conf} {most : List Int} (h1 : c.length = g.ports.length) (h : ∀ v, v < c.length → rowOK (g.ports.getD v []).length most (c.getD v []) = true) : holdsB g c most = true := by
  simp only [holdsB, Bool.and_eq_true, beq_iff_eq, List.all_eq_true, List.mem_range]; exact ⟨h1, h⟩
set_option maxHeartbeats 2000000 in
set_option maxRecDepth 100000 in
theorem holds_calls (w : World) (A0 : Option Addr) (c0 : Nat) (A1 : Option Addr) (c1 : Nat) (g : Graph) (hg : IsGraph w A0 c0 A1 c1 g) (A2 : Option Addr) (c2 : Nat) (c : Conf) (hc : kConf.C w A2 c) (A3 : Option Addr) (c3 : Nat) (most : List Int) (hm : (Kd.int .i64).C w A3 most) :
    Calls Try.prog 73 #[.agg #[.slice A0 g.ids.length c0, .slice A1 g.ports.length c1], .slice A2 c.length c2, .slice A3 most.length c3] w fun e w' => e = .returned (.bool (holdsB g c most)) ∧ Below w.heap.size w w' := by
  by_cases h1 : c.length = g.ports.length
  · have t1 : ((c.length : Int) != (g.ports.length : Int)) = false := by rw [h1]; simp
    have H1 := Lib.hid h1
    have hcm := Kd.C_max hc
    have hle : c.length ≤ g.ports.length := by omega
    clear h1
    go_enter Try.func73, Try.ntmps73
    go_wp2_with fail
    go_loopw [21] (fun i wr => ∃ v : Nat, v ≤ c.length ∧ i = .int .i64 v ∧ (∀ u, u < v → rowOK (g.ports.getD u []).length most (c.getD u []) = true) ∧ Below (w.heap.size + 1) (w.alloc (.cells #[.slice A0 g.ids.length c0, .slice A1 g.ports.length c1] 27)) wr) (fun i _ => c.length - (intOf i).toNat)
    case atStart => exact ⟨0, Nat.zero_le _, rfl, fun _ h => absurd h (Nat.not_lt_zero _), Below.refl _ _⟩
    case round =>
      obtain ⟨wv, rfl⟩ : ∃ wv : World, wv = wr := ⟨_, rfl⟩
      obtain ⟨v, hv, rfl, hi, hb⟩ := hrel
      have hzv := hb.size
      simp only [World.size_alloc] at hzv
      have hc1v : wv.cell? ⟨w.heap.size, 1, none⟩ = some (.slice A1 g.ports.length c1) := by rw [(bcell hb).1 _ _ (Nat.lt_succ_self _)]; go_simp
      have hB := Lib.hid (((Below.refl w.heap.size w).alloc (Nat.le_refl _) (.cells #[.slice A0 g.ids.length c0, .slice A1 g.ports.length c1] 27)).trans (hb.mono (Nat.le_succ _)))
      have HI := Lib.hid hi
      have HB := Lib.hid hb
      clear hi hb
      by_cases hlt : v < c.length
      · obtain ⟨ad, A4, c4, hA, hcell, hl4, hC4⟩ := Kd.at_slice (Kd.C_below hc hB.out) v hlt
        obtain ⟨ad5, A5, c5, hA5, hcell5, hl5, hC5⟩ := Kd.at_slice (Kd.C_below hg.ports hB.out) v (by omega)
        cases hA
        cases hA5
        have HR : Hid (c.getD v [] = c[v]) := by unfold Hid; simp [List.getD_eq_getElem?_getD, hlt]
        have HP : Hid (g.ports.getD v [] = g.ports[v]) := by unfold Hid; simp [List.getD_eq_getElem?_getD]; rw [List.getElem?_eq_getElem]; rfl
        generalize c[v] = r at hcell hl4 hC4 HR
        generalize g.ports[v] = ps at hcell5 hl5 hC5 HP
        have hrm := Kd.C_max hC4
        have hpm := Kd.C_max hC5
        have HC4 := Lib.hid hC4
        have HM3 := Lib.hid (Kd.C_below hm hB.out)
        have hmm := Kd.C_max hm
        have HBAD : Hid (rowOK ps.length most r = false → holdsB g c most = false) := fun h => holds_bad (.inr ⟨v, hlt, by rw [HP.out, HR.out]; exact h⟩)
        clear hC4 hC5 hm hc hg
        by_cases h2 : r.length = most.length
        · have t2 : ((r.length : Int) != (most.length : Int)) = false := by rw [h2]; simp
          have hrl : r.length ≤ most.length := by omega
          have H2 := Lib.hid h2
          clear h2
          go_wp2_with fail
          go_loopw [33] (fun i wr => ∃ x : Nat, x ≤ r.length ∧ i = .int .i64 x ∧ (∀ y, y < x → inRange ps.length (most.getD y 0) (r.getD y 0) = true) ∧ ∃ n, wr = wv.drewN n) (fun i _ => r.length - (intOf i).toNat)
          case atStart => exact ⟨0, Nat.zero_le _, rfl, fun _ h => absurd h (Nat.not_lt_zero _), 0, rfl⟩
          case round =>
            obtain ⟨x, hx, rfl, hj, n, rfl⟩ := hrel
            have HJ := Lib.hid hj
            clear hj
            by_cases hlx : x < r.length
            · have hlm : x < most.length := by omega
              obtain ⟨ad6, hA6, hc6⟩ := Kd.at_int HC4.out x hlx
              obtain ⟨ad7, hA7, hc7⟩ := Kd.at_int HM3.out x hlm
              cases hA6
              cases hA7
              have HY : Hid (r.getD x 0 = r[x]) := by unfold Hid; simp [List.getD_eq_getElem?_getD, hlx]
              have HH : Hid (most.getD x 0 = most[x]) := by unfold Hid; simp [List.getD_eq_getElem?_getD, hlm]
              generalize r[x] = y at hc6 HY
              generalize most[x] = q at hc7 HH
              have HBX : Hid (inRange ps.length q y = false → holdsB g c most = false) := fun h => HBAD.out (row_bad (.inr ⟨x, hlx, by rw [HY.out, HH.out]; exact h⟩))
              have HGX : Hid (inRange ps.length q y = true → ∀ z, z < x + 1 → inRange ps.length (most.getD z 0) (r.getD z 0) = true) := fun h z hz => by
                by_cases hzx : z = x
                · subst hzx; rw [HY.out, HH.out]; exact h
                · exact HJ.out z (by omega)
              have hx0 : (0 : Int) ≤ x := by omega
              have hxm : (x : Int) < most.length := by omega
              have hv0 : (0 : Int) ≤ v := by omega
              have hvm : (v : Int) < g.ports.length := by omega
              by_cases hq : q = -1
              · have hqb : (q == -1) = true := by simp [hq]
                have HQ := Lib.hid hq
                clear hq
                by_cases y0 : y < -1
                · have HV := Lib.hid (HBX.out (by simp [inRange, HQ.out]; omega))
                  go_wp2_with fail
                  go_quiet (fail)
                  go_wp2_with fail
                  go_quiet (fail)
                  go_wp2_with fail
                  go_ret
                  exact ⟨by rw [HV.out]; rfl, below_drewN hB.out _⟩
                · by_cases y1 : (ps.length : Int) - 1 < y
                  · have HV := Lib.hid (HBX.out (by simp [inRange, HQ.out]; omega))
                    go_wp2_with fail
                    go_quiet (fail)
                    go_wp2_with fail
                    go_quiet (fail)
                    go_wp2_with fail
                    go_ret
                    exact ⟨by rw [HV.out]; rfl, below_drewN hB.out _⟩
                  · have HN := Lib.hid (HGX.out (by simp [inRange, HQ.out]; omega))
                    go_wp2_with fail
                    go_quiet (fail)
                    go_wp2_with fail
                    go_quiet (fail)
                    go_wp2_with fail
                    go_roundw
                    case rel => exact ⟨x + 1, by omega, by go_num, HN.out, _, rfl⟩
                    case measure => simp [intOf]; omega
              · have hqb : (q == -1) = false := by simp [hq]
                have HQ := Lib.hid hq
                clear hq
                by_cases y0 : y < 0
                · have HV := Lib.hid (HBX.out (by simp [inRange, HQ.out]; omega))
                  go_wp2_with fail
                  go_quiet (fail)
                  go_wp2_with fail
                  go_ret
                  exact ⟨by rw [HV.out]; rfl, below_drewN hB.out _⟩
                · by_cases y1 : q < y
                  · have HV := Lib.hid (HBX.out (by simp [inRange, HQ.out]; omega))
                    go_wp2_with fail
                    go_quiet (fail)
                    go_wp2_with fail
                    go_ret
                    exact ⟨by rw [HV.out]; rfl, below_drewN hB.out _⟩
                  · have HN := Lib.hid (HGX.out (by simp [inRange, HQ.out]; omega))
                    go_wp2_with fail
                    go_quiet (fail)
                    go_wp2_with fail
                    go_roundw
                    case rel => exact ⟨x + 1, by omega, by go_num, HN.out, _, rfl⟩
                    case measure => simp [intOf]; omega
            · have HG := Lib.hid (row_good H2.out fun z hz => HJ.out z (by omega))
              go_wp2_with fail
              go_roundw
              case rel =>
                refine ⟨v + 1, by omega, by go_num, fun u hu => ?_, below_drewN HB.out n⟩
                by_cases huv : u = v
                · subst huv; rw [HP.out, HR.out]; exact HG.out
                · exact HI.out u (by omega)
              case measure => simp [intOf]; omega
        · have t2 : ((r.length : Int) != (most.length : Int)) = true := by rw [bne_iff_ne]; omega
          have HV := Lib.hid (HBAD.out (row_bad (.inl h2)))
          clear h2
          go_wp2_with fail
          go_ret
          exact ⟨by rw [HV.out]; rfl, hB.out⟩
      · have HV := Lib.hid (holds_good H1.out fun u hu => HI.out u (by omega))
        go_wp2_with fail
        go_ret
        exact ⟨by rw [HV.out]; rfl, hB.out⟩
  · have t1 : ((c.length : Int) != (g.ports.length : Int)) = true := by rw [bne_iff_ne]; omega
    have HV := Lib.hid (holds_bad (most := most) (.inl h1))
    clear h1
    go_enter Try.func73, Try.ntmps73
    go_wp2_with fail
    go_ret
    exact ⟨by rw [HV.out]; rfl, (Below.refl _ _).alloc (Nat.le_refl _) _⟩
end Go.Proofs.Ythapikakneikbaa
/-
  graph.around, graph.Neighbours; package independent.
-/
namespace Go.Proofs.Ythapikakneikbaa
open Go.RowKit
/-- Is u the neighbour at a port of v? -/
def adj (g : Graph) (v u : Nat) : Bool := (g.ports.getD v []).any fun l => decide (l.to_ = (u : Int))
def aroundB (g : Graph) (v : Nat) : Nat := bitsOf (adj g v) g.ports.length
def orTo (ps : List Link) : Nat := ps.foldl (fun s l => s ||| 2 ^ l.to_.toNat) 0
theorem orTo_bits {n : Nat} {ps : List Link} (h : ∀ l ∈ ps, 0 ≤ l.to_ ∧ l.to_ < n) : orTo ps = bitsOf (fun u => ps.any fun l => decide (l.to_ = (u : Int))) n := by
  suffices H : ∀ (qs rs : List Link), ps = qs ++ rs → rs.foldl (fun s l => s ||| 2 ^ l.to_.toNat) (bitsOf (fun u => qs.any fun l => decide (l.to_ = (u : Int))) n) = bitsOf (fun u => ps.any fun l => decide (l.to_ = (u : Int))) n by
    have := H [] ps rfl
    rw [← this, orTo]
    congr 1
    exact (bitsOf_zero.2 (by simp)).symm
  intro qs rs
  induction rs generalizing qs with
  | nil => intro e; rw [e]; simp
  | cons l rs ih =>
    intro e
    rw [List.foldl_cons, ← ih (qs ++ [l]) (by rw [e]; simp)]
    congr 1
    have hl := h l (by rw [e]; simp)
    refine Nat.eq_of_testBit_eq fun u => ?_
    rw [Nat.testBit_or, testBit_bitsOf, testBit_bitsOf]
    simp only [List.any_append, List.any_cons, List.any_nil, Bool.or_false]
    by_cases hu : u = l.to_.toNat
    · subst hu
      rw [Nat.testBit_two_pow_self, Bool.or_true, decide_eq_true (show l.to_.toNat < n by omega), decide_eq_true (show l.to_ = (l.to_.toNat : Int) by omega)]
      simp
    · rw [Nat.testBit_two_pow_of_ne (Ne.symm hu), decide_eq_false (show ¬ l.to_ = (u : Int) by omega)]
      simp
theorem valid_link {g : Graph} (h : g.valid = true) {v : Nat} {l : Link} (hl : l ∈ g.ports.getD v []) : 0 ≤ l.to_ ∧ l.to_ < g.ports.length ∧ l.to_ ≠ v ∧ 1 ≤ l.wt ∧ l.wt ≤ 15 := by
  have hv : v < g.ports.length := by
    rcases Nat.lt_or_ge v g.ports.length with h | h
    · exact h
    · rw [List.getD_eq_getElem?_getD, List.getElem?_eq_none h] at hl; cases hl
  have hm : (⟨v, l.to_, l.wt⟩ : Edge) ∈ g.edges := mem_edgesFrom.2 ⟨v, g.ports[v], List.getElem?_eq_getElem hv, by simp, by simpa [List.getD_eq_getElem?_getD, hv] using hl⟩
  have := ((valid_iff g).1 h).2.2.2.1 _ hm
  simpa only [Edge.ok, decide_eq_true_eq] using this
theorem valid_size {g : Graph} (h : g.valid = true) : 1 ≤ g.ports.length ∧ g.ports.length ≤ 24 ∧ g.ids.length = g.ports.length := ((valid_iff g).1 h).1
theorem orTo_around {g : Graph} (h : g.valid = true) (v : Nat) : orTo (g.ports.getD v []) = aroundB g v := orTo_bits fun _ hl => ⟨(valid_link h hl).1, (valid_link h hl).2.1⟩
theorem orTo_lt {ps : List Link} (h : ∀ l ∈ ps, 0 ≤ l.to_ ∧ l.to_ < 24) : orTo ps < 4294967296 := by rw [orTo_bits (n := 24) h]; exact bitsOf_small (by decide)
set_option maxHeartbeats 1000000 in
set_option maxRecDepth 100000 in
theorem around_calls (w : World) (A0 : Option Addr) (c0 : Nat) (A1 : Option Addr) (c1 : Nat) (g : Graph) (hg : IsGraph w A0 c0 A1 c1 g) (hV : g.valid = true) (v : Int) (h0 : 0 ≤ v) (hv : v < g.ports.length) :
    Calls Try.prog 119 #[.agg #[.slice A0 g.ids.length c0, .slice A1 g.ports.length c1], .int .i64 v] w fun e w' => e = .returned (.int .u32 (aroundB g v.toNat : Nat)) ∧ Below w.heap.size w w' := by
  obtain ⟨v, rfl⟩ := Int.eq_ofNat_of_zero_le h0
  rw [Int.toNat_natCast]
  have hv' : v < g.ports.length := by omega
  obtain ⟨ad, A4, c4, hA, hcell, hl4, hC4⟩ := Kd.at_slice hg.ports v hv'
  cases hA
  have HP : Hid (g.ports.getD v [] = g.ports[v]) := by unfold Hid; simp [List.getD_eq_getElem?_getD, hv']
  generalize g.ports[v] = ps at hcell hl4 hC4 HP
  have HIN : Hid (∀ l ∈ ps, 0 ≤ l.to_ ∧ l.to_ < 24) := fun l hl => by
    have h1 := valid_link hV (v := v) (l := l) (by rw [HP.out]; exact hl)
    have h2 := valid_size hV
    omega
  have HR := Lib.hid (orTo_around hV v)
  rw [HP.out] at HR
  have HC4 := Lib.hid hC4
  have hpm := Kd.C_max hC4
  have hvm : (v : Int) < g.ports.length := by omega
  have hn := (valid_size hV).2.1
  replace hcell := cell_keeps (keeps_of ((Below.refl _ _).alloc (Nat.le_refl _) (.cells #[.slice A0 g.ids.length c0, .slice (some ad) g.ports.length c1] 27))) hcell
  clear hC4 hg hV hv'
  go_enter Try.func119, Try.ntmps119
  go_wp2_with fail
  go_loopw [5, 14] (fun s i wr => ∃ j : Nat, j ≤ ps.length ∧ i = .int .i64 j ∧ s = .int .u32 (orTo (ps.take j) : Nat) ∧ Below w.heap.size w wr) (fun _ i _ => ps.length - (intOf i).toNat)
  case atStart => exact ⟨0, Nat.zero_le _, rfl, rfl, (Below.refl _ _).alloc (Nat.le_refl _) _⟩
  case round =>
    obtain ⟨wv, rfl⟩ : ∃ wv : World, wv = wr := ⟨_, rfl⟩
    obtain ⟨j, hj, rfl, rfl, hb⟩ := hrel
    have HB := Lib.hid hb
    have hz := hb.size
    clear hb
    by_cases hlt : j < ps.length
    · obtain ⟨ad2, hA2, hx, hy⟩ := at_link (Kd.C_below HC4.out HB.out) j hlt
      cases hA2
      have hin := HIN.out _ (List.getElem_mem hlt)
      have HS : Hid (orTo (ps.take (j + 1)) = orTo (ps.take j) ||| 2 ^ ps[j].to_.toNat) := by
        unfold Hid orTo
        rw [List.take_succ_eq_append_getElem hlt, List.foldl_append]
        rfl
      have hs := orTo_lt (ps := ps.take j) fun l hl => HIN.out l (List.mem_of_mem_take hl)
      generalize ps[j].wt = y at hy
      generalize ps[j].to_ = x at hx hin HS
      generalize orTo (ps.take j) = S at hs HS
      obtain ⟨hx0, hx24⟩ := hin
      have hx0 : (0 : Int) ≤ x := by omega
      obtain ⟨x, rfl⟩ := Int.eq_ofNat_of_zero_le hx0
      rw [Int.toNat_natCast] at HS
      go_wp2_with fail
      go_roundw
      case rel => exact ⟨j + 1, by omega, by go_num, by rw [HS.out, shl1 (by omega), or_one hs (by omega)], HB.out.alloc hz _⟩
      case measure => simp [intOf]; omega
    · have HE := Lib.hid (show ps.take j = ps from List.take_of_length_le (by omega))
      go_wp2_with fail
      go_ret
      exact ⟨by rw [HE.out, HR.out]; rfl, HB.out⟩
/-! ### package independent -/
end Go.Proofs.Ythapikakneikbaa
/-
  As Bridge, beside the contracts of the text Neigh.
-/
namespace Go.Proofs.YthapikakneikbaaG
open Go.RowKit Go.Proofs.YthapikakneikbaaW.PrintWords Go.Proofs.YthapikakneikbaaW.PrintLast Go.Proofs.YthapikakneikbaaW.PrintMore
attribute [local go_sem] max2_int min2_int max_two min_two max_three min_three max_four min_four   -- for this text's walks alone
set_option linter.unusedVariables false
set_option linter.unusedSimpArgs false
def graph_around.f (l0_0 : List Int) (l0_1 : List (List (S60))) (a1 : Int) : Option (Int) := if (toG l0_0 l0_1).valid = true ∧ 0 ≤ a1 ∧ a1 < l0_1.length then some ((Go.Proofs.Ythapikakneikbaa.aroundB (toG l0_0 l0_1) a1.toNat : Nat) : Int) else none
theorem graph_around.calls (A0_0 : Option Addr) (c0_0 : Nat) (l0_0 : List Int) (A0_1 : Option Addr) (c0_1 : Nat) (l0_1 : List (List (S60))) (a1 : Int) (r : Int) (w : World) (hr0_0 : Kd.C (Kd.int .i64) w A0_0 l0_0.length l0_0) (hc0_0 : l0_0.length ≤ c0_0) (hr0_1 : Kd.C (Kd.slice 60 k60) w A0_1 l0_1.length l0_1) (hc0_1 : l0_1.length ≤ c0_1) (h : graph_around.f l0_0 l0_1 a1 = some r) :
  Calls Try.prog 119 #[.agg #[.slice A0_0 l0_0.length c0_0, .slice A0_1 l0_1.length c0_1], .int .i64 a1] w fun e w' => e = .returned (.int .u32 r) ∧ Below w.heap.size w w' := by
 unfold graph_around.f at h
 by_cases hm : (toG l0_0 l0_1).valid = true ∧ 0 ≤ a1 ∧ a1 < l0_1.length
 ·
  rw [if_pos hm] at h
  injection h with h
  subst h
  have e1 : (toG l0_0 l0_1).ports.length = l0_1.length := by simp [toG]
  have hv := Go.Proofs.Ythapikakneikbaa.around_calls w A0_0 c0_0 A0_1 c0_1 (toG l0_0 l0_1) (isGraph hr0_0 hc0_0 hr0_1 hc0_1) hm.1 a1 hm.2.1 (by rw [e1]; exact hm.2.2)
  rw [e1] at hv
  exact hv
 ·
  rw [if_neg hm] at h
  cases h
end Go.Proofs.YthapikakneikbaaG
namespace Go.Proofs.YthapikakneikbaaG
open Go.RowKit Go.Proofs.YthapikakneikbaaW.PrintWords Go.Proofs.YthapikakneikbaaW.PrintLast Go.Proofs.YthapikakneikbaaW.PrintMore
attribute [local go_sem] max2_int min2_int max_two min_two max_three min_three max_four min_four   -- for this text's walks alone
set_option linter.unusedVariables false
set_option linter.unusedSimpArgs false
def graph_Valid.f (l0_0 : List Int) (l0_1 : List (List (S60))) : Option (Bool) := some (toG l0_0 l0_1).valid
theorem graph_Valid.calls (A0_0 : Option Addr) (c0_0 : Nat) (l0_0 : List Int) (A0_1 : Option Addr) (c0_1 : Nat) (l0_1 : List (List (S60))) (r : Bool) (w : World) (hr0_0 : Kd.C (Kd.int .i64) w A0_0 l0_0.length l0_0) (hc0_0 : l0_0.length ≤ c0_0) (hr0_1 : Kd.C (Kd.slice 60 k60) w A0_1 l0_1.length l0_1) (hc0_1 : l0_1.length ≤ c0_1) (h : graph_Valid.f l0_0 l0_1 = some r) :
  Calls Try.prog 80 #[.agg #[.slice A0_0 l0_0.length c0_0, .slice A0_1 l0_1.length c0_1]] w fun e w' => e = .returned (.bool r) ∧ Below w.heap.size w w' := by
 obtain rfl : (toG l0_0 l0_1).valid = r := by simpa [graph_Valid.f] using h
 have hv := Go.Proofs.Ythapikakneikbaa.valid_calls w A0_0 c0_0 A0_1 c0_1 (toG l0_0 l0_1) (isGraph hr0_0 hc0_0 hr0_1 hc0_1)
 have e1 : (toG l0_0 l0_1).ports.length = l0_1.length := by simp [toG]
 rw [e1] at hv
 exact hv
end Go.Proofs.YthapikakneikbaaG
namespace Go.Proofs.YthapikakneikbaaG
open Go.RowKit Go.Proofs.YthapikakneikbaaW.PrintWords Go.Proofs.YthapikakneikbaaW.PrintLast Go.Proofs.YthapikakneikbaaW.PrintMore
attribute [local go_sem] max2_int min2_int max_two min_two max_three min_three max_four min_four   -- for this text's walks alone
set_option linter.unusedVariables false
set_option linter.unusedSimpArgs false
def graph_node.f (l0_0 : List Int) (l0_1 : List (List (S60))) (a1 : Int) : Option (Bool) := if a1 ≥ 0 then (if a1 < (l0_1.length : Int) then ((graph_Valid.f l0_0 l0_1).bind fun t433 => (some t433)) else (some false)) else (some false)
set_option maxHeartbeats 8000000 in
set_option maxRecDepth 100000 in
theorem graph_node.calls (A0_0 : Option Addr) (c0_0 : Nat) (l0_0 : List Int) (A0_1 : Option Addr) (c0_1 : Nat) (l0_1 : List (List (S60))) (a1 : Int) (r : Bool) (w : World) (hr0_0 : Kd.C (Kd.int .i64) w A0_0 l0_0.length l0_0) (hc0_0 : l0_0.length ≤ c0_0) (hr0_1 : Kd.C (Kd.slice 60 k60) w A0_1 l0_1.length l0_1) (hc0_1 : l0_1.length ≤ c0_1) (h : graph_node.f l0_0 l0_1 a1 = some r) :
  Calls Try.prog 124 #[.agg #[.slice A0_0 l0_0.length c0_0, .slice A0_1 l0_1.length c0_1], .int .i64 a1] w fun e w' => e = .returned (.bool r) ∧ Below w.heap.size w w' := by
 have hu27 := Try.underlying27
 have HR0_0 := Aside0.mk hr0_0
 have HC0_0 := Aside0.mk hc0_0
 clear hr0_0 hc0_0
 have HR0_1 := Aside0.mk hr0_1
 have HC0_1 := Aside0.mk hc0_1
 clear hr0_1 hc0_1
 have HB := Aside0.mk (Below.refl w.heap.size w)
 have H : (if a1 ≥ 0 then (if a1 < (l0_1.length : Int) then ((graph_Valid.f l0_0 l0_1).bind fun t433 => (some t433)) else (some false)) else (some false)) = some r := h
 clear h
 by_cases c3 : a1 ≥ 0
 ·
  rw [if_pos c3] at H
  have c3b0 : decide (0 ≤ a1) = true := decide_eq_true c3
  clear c3
  by_cases c4 : a1 < (l0_1.length : Int)
  ·
   rw [if_pos c4] at H
   have c4b0 : decide (a1 < (l0_1.length : Int)) = true := decide_eq_true c4
   clear c4
   replace H := Option.bind_eq_some_iff.mp H
   obtain ⟨t433, A50, H⟩ := H
   replace H : (some t433) = some r := H
   have A5 := Aside0.mk A50
   clear A50
   obtain rfl := Option.some.inj H
   go_enter Try.func124, Try.ntmps124
   go_wp2_with (first | ((with_reducible refine gate_dst (N := 2) rfl ?_); (try (refine gate_guard (by rfl) ?_; dsimp only)); refine box_event ?hg (N := 2) ?hd (cs := #[.slice A0_0 l0_0.length c0_0, .slice A0_1 l0_1.length c0_1]) (t := 27) ?hr ?_; (case hd => rfl); (case hg => rfl); (case hr => first | (go_simp; done) | (go_simp; rfl)); intro gb432 hg w6 hbox hb; have n0_ := Aside0.mk (below_step (by repeat (first | (with_reducible first | exact HB.out | apply below_alloc | apply pw_below_drewN | apply below_drew1) | exact HB.out)) hb); have n1_ := Aside0.mk (hbox); have n2_ := Aside0.mk ((by rw [hg]; exact (below_size (by repeat (first | (with_reducible first | exact HB.out | apply below_alloc | apply pw_below_drewN | apply below_drew1) | exact HB.out))) : w.heap.size ≤ gb432)); have n3_ := Aside0.mk ((by rw [hg]; exact (below_size (by repeat (first | (with_reducible first | exact HB.out | apply below_alloc | apply pw_below_drewN | apply below_drew1) | exact HB.out))) : w.heap.size ≤ gb432)); clear HB; have HB := n0_; have BK432 := n1_; have GW432 := n2_; have GE432 := n3_; clear n0_ n1_ n2_ n3_; clear hb hbox hg; have hcz7_0 : w6.cell? ⟨gb432, 0, none⟩ = some (.slice A0_0 l0_0.length c0_0) := (blk_cell BK432.out 0).trans rfl; have hcz7_1 : w6.cell? ⟨gb432, 1, none⟩ = some (.slice A0_1 l0_1.length c0_1) := (blk_cell BK432.out 1).trans rfl; have hfz7_0 := blk_frozen BK432.out 0; have hfz7_1 := blk_frozen BK432.out 1) | (go_at_call 80; (with_reducible refine (graph_Valid.calls _ _ l0_0 _ _ l0_1 t433 _ ?side1 ?side2 ?side3 ?side4 A5.out).mono ?_); (case side1 => repeat (first | exact (Kd.C_below HR0_0.out HB.out) | (with_reducible refine Kd.C_alloc ?_ _) | (with_reducible refine Kd.C_drewN ?_ _) | (with_reducible refine Kd.C_drew ?_))); (case side2 => exact HC0_0.out); (case side3 => repeat (first | exact (Kd.C_below HR0_1.out HB.out) | (with_reducible refine Kd.C_alloc ?_ _) | (with_reducible refine Kd.C_drewN ?_ _) | (with_reducible refine Kd.C_drew ?_))); (case side4 => exact HC0_1.out); rintro e w8 ⟨rfl, hb⟩; have n0_ := Aside0.mk (blk_below (g := gb432) (o := .cells #[.slice A0_0 l0_0.length c0_0, .slice A0_1 l0_1.length c0_1] 27 (0, 0)) (by (with_reducible repeat (first | refine blk_drewN ?_ _ | refine blk_drew ?_ | refine blk_alloc ?_ _)); exact BK432.out) hb); have n1_ := Aside0.mk (below_step (by repeat (first | (with_reducible first | exact HB.out | apply below_alloc | apply pw_below_drewN | apply below_drew1 | refine below_set ?_ GE432.out) | exact HB.out)) hb); clear BK432; clear HB; have BK432 := n0_; have HB := n1_; clear n0_ n1_; (try clear hb); (try clear hb2); (try clear hk); (try clear hi)))
   go_ret
   exact ⟨by first | rfl | (simp [errW_none, errW_some] <;> rfl) | (simp [*, errW_none, errW_some] <;> rfl), by repeat (first | (with_reducible first | exact HB.out | apply below_alloc | apply pw_below_drewN | apply below_drew1 | refine below_set ?_ GE432.out) | exact HB.out)⟩
  ·
   rw [if_neg c4] at H
   have c4b0 : decide (a1 < (l0_1.length : Int)) = false := decide_eq_false c4
   clear c4
   obtain rfl := Option.some.inj H
   go_enter Try.func124, Try.ntmps124
   go_wp2_with (first | ((with_reducible refine gate_dst (N := 2) rfl ?_); (try (refine gate_guard (by rfl) ?_; dsimp only)); refine box_event ?hg (N := 2) ?hd (cs := #[.slice A0_0 l0_0.length c0_0, .slice A0_1 l0_1.length c0_1]) (t := 27) ?hr ?_; (case hd => rfl); (case hg => rfl); (case hr => first | (go_simp; done) | (go_simp; rfl)); intro gb432 hg w9 hbox hb; have n0_ := Aside0.mk (below_step (by repeat (first | (with_reducible first | exact HB.out | apply below_alloc | apply pw_below_drewN | apply below_drew1) | exact HB.out)) hb); have n1_ := Aside0.mk (hbox); have n2_ := Aside0.mk ((by rw [hg]; exact (below_size (by repeat (first | (with_reducible first | exact HB.out | apply below_alloc | apply pw_below_drewN | apply below_drew1) | exact HB.out))) : w.heap.size ≤ gb432)); have n3_ := Aside0.mk ((by rw [hg]; exact (below_size (by repeat (first | (with_reducible first | exact HB.out | apply below_alloc | apply pw_below_drewN | apply below_drew1) | exact HB.out))) : w.heap.size ≤ gb432)); clear HB; have HB := n0_; have BK432 := n1_; have GW432 := n2_; have GE432 := n3_; clear n0_ n1_ n2_ n3_; clear hb hbox hg; have hcz10_0 : w9.cell? ⟨gb432, 0, none⟩ = some (.slice A0_0 l0_0.length c0_0) := (blk_cell BK432.out 0).trans rfl; have hcz10_1 : w9.cell? ⟨gb432, 1, none⟩ = some (.slice A0_1 l0_1.length c0_1) := (blk_cell BK432.out 1).trans rfl; have hfz10_0 := blk_frozen BK432.out 0; have hfz10_1 := blk_frozen BK432.out 1))
   go_ret
   exact ⟨by first | rfl | (simp [errW_none, errW_some] <;> rfl) | (simp [*, errW_none, errW_some] <;> rfl), by repeat (first | (with_reducible first | exact HB.out | apply below_alloc | apply pw_below_drewN | apply below_drew1 | refine below_set ?_ GE432.out) | exact HB.out)⟩
 ·
  rw [if_neg c3] at H
  have c3b0 : decide (0 ≤ a1) = false := decide_eq_false c3
  clear c3
  obtain rfl := Option.some.inj H
  go_enter Try.func124, Try.ntmps124
  go_wp2_with (first | ((with_reducible refine gate_dst (N := 2) rfl ?_); (try (refine gate_guard (by rfl) ?_; dsimp only)); refine box_event ?hg (N := 2) ?hd (cs := #[.slice A0_0 l0_0.length c0_0, .slice A0_1 l0_1.length c0_1]) (t := 27) ?hr ?_; (case hd => rfl); (case hg => rfl); (case hr => first | (go_simp; done) | (go_simp; rfl)); intro gb432 hg w11 hbox hb; have n0_ := Aside0.mk (below_step (by repeat (first | (with_reducible first | exact HB.out | apply below_alloc | apply pw_below_drewN | apply below_drew1) | exact HB.out)) hb); have n1_ := Aside0.mk (hbox); have n2_ := Aside0.mk ((by rw [hg]; exact (below_size (by repeat (first | (with_reducible first | exact HB.out | apply below_alloc | apply pw_below_drewN | apply below_drew1) | exact HB.out))) : w.heap.size ≤ gb432)); have n3_ := Aside0.mk ((by rw [hg]; exact (below_size (by repeat (first | (with_reducible first | exact HB.out | apply below_alloc | apply pw_below_drewN | apply below_drew1) | exact HB.out))) : w.heap.size ≤ gb432)); clear HB; have HB := n0_; have BK432 := n1_; have GW432 := n2_; have GE432 := n3_; clear n0_ n1_ n2_ n3_; clear hb hbox hg))
  go_ret
  exact ⟨by first | rfl | (simp [errW_none, errW_some] <;> rfl) | (simp [*, errW_none, errW_some] <;> rfl), by repeat (first | (with_reducible first | exact HB.out | apply below_alloc | apply pw_below_drewN | apply below_drew1 | refine below_set ?_ GE432.out) | exact HB.out)⟩
end Go.Proofs.YthapikakneikbaaG
namespace Go.Proofs.YthapikakneikbaaG
open Go.RowKit Go.Proofs.YthapikakneikbaaW.PrintWords Go.Proofs.YthapikakneikbaaW.PrintLast Go.Proofs.YthapikakneikbaaW.PrintMore
attribute [local go_sem] max2_int min2_int max_two min_two max_three min_three max_four min_four   -- for this text's walks alone
set_option linter.unusedVariables false
set_option linter.unusedSimpArgs false
mutual
def graph_Distances.l0 : Nat → Int → List Int → Int → Int → List Int → List (List (S60)) → Option (List Int)
 | 0, _, _, _, _, _, _ => none
 | k + 1, x1, x5, x21, x22, x435000, x435001 => if x22 < x21 then (if 0 ≤ x22 then (if x22 < (x5.length : Int) then (graph_Distances.l0 k x1 (x5.set (x22 : Int).toNat (-1)) x21 (wrap64 (x22 + 1)) x435000 x435001) else (none)) else (none)) else (if 0 ≤ x1 then (graph_Distances.l1 k x5 0 0 (shl .u32 1 x1) x435000 x435001) else (none))
def graph_Distances.l1 : Nat → List Int → Int → Int → Int → List Int → List (List (S60)) → Option (List Int)
 | 0, _, _, _, _, _, _ => none
 | k + 1, x5, x7, x8, x9, x435000, x435001 => if x9 = 0 then (some x5) else (graph_Distances.l2 k x5 (Go.bits .or .u32 x7 x9) x8 x9 0 (x5.length : Int) 0 x435000 x435001)
def graph_Distances.l2 : Nat → List Int → Int → Int → Int → Int → Int → Int → List Int → List (List (S60)) → Option (List Int)
 | 0, _, _, _, _, _, _, _, _, _ => none
 | k + 1, x5, x7, x8, x9, x10, x39, x40, x435000, x435001 => if x40 < x39 then (if 0 ≤ x40 then (if (Go.bits .and .u32 (shr .u32 x9 x40) 1) = 1 then (if x40 < (x5.length : Int) then ((graph_around.f x435000 x435001 x40).bind fun t441 => (graph_Distances.l2 k (x5.set (x40 : Int).toNat x8) x7 x8 x9 (Go.bits .or .u32 x10 t441) x39 (wrap64 (x40 + 1)) x435000 x435001)) else (none)) else (graph_Distances.l2 k x5 x7 x8 x9 x10 x39 (wrap64 (x40 + 1)) x435000 x435001)) else (none)) else (graph_Distances.l1 k x5 x7 (wrap64 (x8 + 1)) (Go.bits .andNot .u32 x10 x7) x435000 x435001)
end
def graph_Distances.f (k : Nat) (l0_0 : List Int) (l0_1 : List (List (S60))) (a1 : Int) : Option (List Int) := (graph_node.f l0_0 l0_1 a1).bind fun t435 => (if t435 = true then (if 0 ≤ (l0_1.length : Int) then (if ((l0_1.length : Int) : Int).toNat ≤ 35184372088832 then ((some (List.replicate ((l0_1.length : Int) : Int).toNat 0 : List Int)).bind fun y436 => (graph_Distances.l0 k a1 y436 (y436.length : Int) 0 l0_0 l0_1)) else (none)) else (none)) else (some ([] : List Int)))
theorem graph_Distances.mono_l : ∀ k, (∀ y0 y1 y2 y3 y4 y5, LeO (graph_Distances.l0 k y0 y1 y2 y3 y4 y5) (graph_Distances.l0 (k + 1) y0 y1 y2 y3 y4 y5)) ∧ (∀ y0 y1 y2 y3 y4 y5, LeO (graph_Distances.l1 k y0 y1 y2 y3 y4 y5) (graph_Distances.l1 (k + 1) y0 y1 y2 y3 y4 y5)) ∧ (∀ y0 y1 y2 y3 y4 y5 y6 y7 y8, LeO (graph_Distances.l2 k y0 y1 y2 y3 y4 y5 y6 y7 y8) (graph_Distances.l2 (k + 1) y0 y1 y2 y3 y4 y5 y6 y7 y8))
 | 0 => ⟨fun _ _ _ _ _ _ r h => by simp [graph_Distances.l0] at h, fun _ _ _ _ _ _ r h => by simp [graph_Distances.l1] at h, fun _ _ _ _ _ _ _ _ _ r h => by simp [graph_Distances.l2] at h⟩
 | k + 1 => by
  obtain ⟨ih0, ih1, ih2⟩ := graph_Distances.mono_l k
  refine ⟨?_, ?_, ?_⟩
  ·
   intro y0 y1 y2 y3 y4 y5
   unfold graph_Distances.l0
   repeat' first
   | (with_reducible exact ih0 _ _ _ _ _ _)
   | (with_reducible exact ih1 _ _ _ _ _ _)
   | (with_reducible exact ih2 _ _ _ _ _ _ _ _ _)
   | (with_reducible exact LeO.refl _)
   | (with_reducible exact LeO.none _)
   | (with_reducible refine LeO.ite ?_ ?_)
   | (with_reducible refine LeO.bind ?_ (fun _ => ?_))
   | exact ih0 _ _ _ _ _ _
   | exact ih1 _ _ _ _ _ _
   | exact ih2 _ _ _ _ _ _ _ _ _
   | exact LeO.none _
   | refine LeO.ite ?_ ?_
   | refine LeO.bind ?_ (fun _ => ?_)
  ·
   intro y0 y1 y2 y3 y4 y5
   unfold graph_Distances.l1
   repeat' first
   | (with_reducible exact ih0 _ _ _ _ _ _)
   | (with_reducible exact ih1 _ _ _ _ _ _)
   | (with_reducible exact ih2 _ _ _ _ _ _ _ _ _)
   | (with_reducible exact LeO.refl _)
   | (with_reducible exact LeO.none _)
   | (with_reducible refine LeO.ite ?_ ?_)
   | (with_reducible refine LeO.bind ?_ (fun _ => ?_))
   | exact ih0 _ _ _ _ _ _
   | exact ih1 _ _ _ _ _ _
   | exact ih2 _ _ _ _ _ _ _ _ _
   | exact LeO.none _
   | refine LeO.ite ?_ ?_
   | refine LeO.bind ?_ (fun _ => ?_)
  ·
   intro y0 y1 y2 y3 y4 y5 y6 y7 y8
   unfold graph_Distances.l2
   repeat' first
   | (with_reducible exact ih0 _ _ _ _ _ _)
   | (with_reducible exact ih1 _ _ _ _ _ _)
   | (with_reducible exact ih2 _ _ _ _ _ _ _ _ _)
   | (with_reducible exact LeO.refl _)
   | (with_reducible exact LeO.none _)
   | (with_reducible refine LeO.ite ?_ ?_)
   | (with_reducible refine LeO.bind ?_ (fun _ => ?_))
   | exact ih0 _ _ _ _ _ _
   | exact ih1 _ _ _ _ _ _
   | exact ih2 _ _ _ _ _ _ _ _ _
   | exact LeO.none _
   | refine LeO.ite ?_ ?_
   | refine LeO.bind ?_ (fun _ => ?_)
theorem graph_Distances.mono : ∀ a0 a1 a2 k, LeO (graph_Distances.f k a0 a1 a2) (graph_Distances.f (k + 1) a0 a1 a2) := by
 intro a0 a1 a2 k
 obtain ⟨ih0, ih1, ih2⟩ := graph_Distances.mono_l k
 unfold graph_Distances.f
 repeat' first
   | (with_reducible exact ih0 _ _ _ _ _ _)
   | (with_reducible exact ih1 _ _ _ _ _ _)
   | (with_reducible exact ih2 _ _ _ _ _ _ _ _ _)
   | (with_reducible exact LeO.refl _)
   | (with_reducible exact LeO.none _)
   | (with_reducible refine LeO.ite ?_ ?_)
   | (with_reducible refine LeO.bind ?_ (fun _ => ?_))
   | exact ih0 _ _ _ _ _ _
   | exact ih1 _ _ _ _ _ _
   | exact ih2 _ _ _ _ _ _ _ _ _
   | exact LeO.none _
   | refine LeO.ite ?_ ?_
   | refine LeO.bind ?_ (fun _ => ?_)
set_option maxHeartbeats 8000000 in
set_option maxRecDepth 100000 in
theorem graph_Distances.calls (k : Nat) (A0_0 : Option Addr) (c0_0 : Nat) (l0_0 : List Int) (A0_1 : Option Addr) (c0_1 : Nat) (l0_1 : List (List (S60))) (a1 : Int) (r : List Int) (w : World) (hr0_0 : Kd.C (Kd.int .i64) w A0_0 l0_0.length l0_0) (hc0_0 : l0_0.length ≤ c0_0) (hr0_1 : Kd.C (Kd.slice 60 k60) w A0_1 l0_1.length l0_1) (hc0_1 : l0_1.length ≤ c0_1) (h : graph_Distances.f k l0_0 l0_1 a1 = some r) :
  Calls Try.prog 90 #[.agg #[.slice A0_0 l0_0.length c0_0, .slice A0_1 l0_1.length c0_1], .int .i64 a1] w fun e w' => ∃ v0_ : Value, e = .returned (v0_) ∧ Kd.R (Kd.int .i64) 3 w' w.heap.size (fun _ => True) v0_ r ∧ Below w.heap.size w w' := by
 have hu27 := Try.underlying27
 have HR0_0 := Aside0.mk hr0_0
 have HC0_0 := Aside0.mk hc0_0
 clear hr0_0 hc0_0
 have HR0_1 := Aside0.mk hr0_1
 have HC0_1 := Aside0.mk hc0_1
 clear hr0_1 hc0_1
 have HB := Aside0.mk (Below.refl w.heap.size w)
 have H : ((graph_node.f l0_0 l0_1 a1).bind fun t435 => (if t435 = true then (if 0 ≤ (l0_1.length : Int) then (if ((l0_1.length : Int) : Int).toNat ≤ 35184372088832 then ((some (List.replicate ((l0_1.length : Int) : Int).toNat 0 : List Int)).bind fun y436 => (graph_Distances.l0 k a1 y436 (y436.length : Int) 0 l0_0 l0_1)) else (none)) else (none)) else (some ([] : List Int)))) = some r := h
 clear h
 replace H := Option.bind_eq_some_iff.mp H
 obtain ⟨t435, A30, H⟩ := H
 replace H : (if t435 = true then (if 0 ≤ (l0_1.length : Int) then (if ((l0_1.length : Int) : Int).toNat ≤ 35184372088832 then ((some (List.replicate ((l0_1.length : Int) : Int).toNat 0 : List Int)).bind fun y436 => (graph_Distances.l0 k a1 y436 (y436.length : Int) 0 l0_0 l0_1)) else (none)) else (none)) else (some ([] : List Int))) = some r := H
 have A3 := Aside0.mk A30
 clear A30
 by_cases c4 : t435 = true
 ·
  subst c4
  have H1 : (if 0 ≤ (l0_1.length : Int) then (if ((l0_1.length : Int) : Int).toNat ≤ 35184372088832 then ((some (List.replicate ((l0_1.length : Int) : Int).toNat 0 : List Int)).bind fun y436 => (graph_Distances.l0 k a1 y436 (y436.length : Int) 0 l0_0 l0_1)) else (none)) else (none)) = some r := by rw [if_pos rfl] at H; exact H
  clear H
  have H := H1
  clear H1
  by_cases c5 : 0 ≤ (l0_1.length : Int)
  ·
   rw [if_pos c5] at H
   have c5b0 := eq_true c5
   have c5b1 : decide (0 ≤ (l0_1.length : Int)) = true := decide_eq_true c5
   clear c5
   by_cases c6 : ((l0_1.length : Int) : Int).toNat ≤ 35184372088832
   ·
    rw [if_pos c6] at H
    have c6b0 := eq_true c6
    have c6b1 : decide (((l0_1.length : Int) : Int).toNat ≤ 35184372088832) = true := decide_eq_true c6
    clear c6
    obtain ⟨y436, hy436⟩ : ∃ y_ : List Int, y_ = (List.replicate ((l0_1.length : Int) : Int).toNat 0) := ⟨_, rfl⟩
    replace H : (graph_Distances.l0 k a1 y436 (y436.length : Int) 0 l0_0 l0_1) = some r := by first | (rw [hy436]; with_reducible exact H) | (have H2_ := (Option.bind_some _ _).symm.trans H; rw [hy436]; with_reducible exact H2_) | (have H2_ := (Option.bind_some _ _).symm.trans H; with_reducible exact H2_) | with_reducible exact H | (rw [hy436]; exact H) | exact H
    have Ny436 := Aside0.mk hy436
    clear hy436
    have H' := Aside0.mk H
    clear H
    go_enter Try.func90, Try.ntmps90
    go_wp2_with (first | ((with_reducible refine gate_dst (N := 2) rfl ?_); refine box_event ?hg (N := 2) ?hd (cs := #[.slice A0_0 l0_0.length c0_0, .slice A0_1 l0_1.length c0_1]) (t := 27) ?hr ?_; (case hd => rfl); (case hg => rfl); (case hr => first | (go_simp; done) | (go_simp; rfl)); intro gb434 hg w7 hbox hb; have n0_ := Aside0.mk (below_step (by repeat (first | (with_reducible first | exact HB.out | apply below_alloc | apply pw_below_drewN | apply below_drew1) | exact HB.out)) hb); have n1_ := Aside0.mk (hbox); have n2_ := Aside0.mk ((by rw [hg]; exact (below_size (by repeat (first | (with_reducible first | exact HB.out | apply below_alloc | apply pw_below_drewN | apply below_drew1) | exact HB.out))) : w.heap.size ≤ gb434)); have n3_ := Aside0.mk ((by rw [hg]; exact (below_size (by repeat (first | (with_reducible first | exact HB.out | apply below_alloc | apply pw_below_drewN | apply below_drew1) | exact HB.out))) : w.heap.size ≤ gb434)); clear HB; have HB := n0_; have BK434 := n1_; have GW434 := n2_; have GE434 := n3_; clear n0_ n1_ n2_ n3_; clear hb hbox hg; have hcz8_0 : w7.cell? ⟨gb434, 0, none⟩ = some (.slice A0_0 l0_0.length c0_0) := (blk_cell BK434.out 0).trans rfl; have hcz8_1 : w7.cell? ⟨gb434, 1, none⟩ = some (.slice A0_1 l0_1.length c0_1) := (blk_cell BK434.out 1).trans rfl; have hfz8_0 := blk_frozen BK434.out 0; have hfz8_1 := blk_frozen BK434.out 1) | (go_at_call 124; (with_reducible refine (graph_node.calls _ _ l0_0 _ _ l0_1 a1 true _ ?side1 ?side2 ?side3 ?side4 A3.out).mono ?_); (case side1 => repeat (first | exact (Kd.C_below HR0_0.out HB.out) | (with_reducible refine Kd.C_alloc ?_ _) | (with_reducible refine Kd.C_drewN ?_ _) | (with_reducible refine Kd.C_drew ?_))); (case side2 => exact HC0_0.out); (case side3 => repeat (first | exact (Kd.C_below HR0_1.out HB.out) | (with_reducible refine Kd.C_alloc ?_ _) | (with_reducible refine Kd.C_drewN ?_ _) | (with_reducible refine Kd.C_drew ?_))); (case side4 => exact HC0_1.out); rintro e w9 ⟨rfl, hb⟩; have n0_ := Aside0.mk (blk_below (g := gb434) (o := .cells #[.slice A0_0 l0_0.length c0_0, .slice A0_1 l0_1.length c0_1] 27 (0, 0)) (by (with_reducible repeat (first | refine blk_drewN ?_ _ | refine blk_drew ?_ | refine blk_alloc ?_ _)); exact BK434.out) hb); have n1_ := Aside0.mk (below_step (by repeat (first | (with_reducible first | exact HB.out | apply below_alloc | apply pw_below_drewN | apply below_drew1 | refine below_set ?_ GE434.out) | exact HB.out)) hb); clear BK434; clear HB; have BK434 := n0_; have HB := n1_; clear n0_ n1_; (try clear hb); (try clear hb2); (try clear hk); (try clear hi); have hcz10_0 : w9.cell? ⟨gb434, 0, none⟩ = some (.slice A0_0 l0_0.length c0_0) := (blk_cell BK434.out 0).trans rfl; have hcz10_1 : w9.cell? ⟨gb434, 1, none⟩ = some (.slice A0_1 l0_1.length c0_1) := (blk_cell BK434.out 1).trans rfl; have hfz10_0 := blk_frozen BK434.out 0; have hfz10_1 := blk_frozen BK434.out 1) | ((with_reducible refine gate_dst (N := 19) rfl ?_); refine Kd.R_make (Kd.int .i64) _ 3 rfl (N := 19) rfl 22 _ _ rfl (l0_1.length : Int) rfl rfl Try.underlying22 (.int .i64 0) 8 info3 rfl (by decide) (by omega) 0 (ok := fun _ => True) (okp := fun _ => True) rfl (fun _ hk => hk) trivial (of_decide_eq_true (by first | (with_reducible assumption) | assumption)) (Nat.le_trans (Nat.mul_le_mul_right _ (of_decide_eq_true (by first | (with_reducible assumption) | assumption) : (l0_1.length : Int).toNat ≤ 35184372088832)) (by omega)) (Below.refl _ _) (Nat.le_refl _) ?_; intro v437 w11 ho12 hb hg_ hnew_; clear hg_ hnew_; (first | rw [← Ny436.out] at ho12 | (simp only [Int.reduceToNat] at ho12; rw [← Ny436.out] at ho12)); have n0_ := Aside0.mk (Kd.R_lower ho12 (below_size (by repeat (first | (with_reducible first | exact HB.out | apply below_alloc | apply pw_below_drewN | apply below_drew1 | refine below_set ?_ GE434.out) | exact HB.out)))); have n1_ := Aside0.mk (blk_below (g := gb434) (o := .cells #[.slice A0_0 l0_0.length c0_0, .slice A0_1 l0_1.length c0_1] 27 (0, 0)) (by (with_reducible repeat (first | refine blk_drewN ?_ _ | refine blk_drew ?_ | refine blk_alloc ?_ _)); exact BK434.out) hb); have n2_ := Aside0.mk (below_step (by repeat (first | (with_reducible first | exact HB.out | apply below_alloc | apply pw_below_drewN | apply below_drew1 | refine below_set ?_ GE434.out) | exact HB.out)) hb); clear BK434; clear HB; have HO438 := n0_; have BK434 := n1_; have HB := n2_; clear n0_ n1_ n2_; clear hb ho12; obtain ⟨Ao13, co13, eo13⟩ := Kd.R_slice HO438.out; subst eo13))
    repeat (go_quiet (first | ((with_reducible refine gate_dst (N := 2) rfl ?_); refine box_event ?hg (N := 2) ?hd (cs := #[.slice A0_0 l0_0.length c0_0, .slice A0_1 l0_1.length c0_1]) (t := 27) ?hr ?_; (case hd => rfl); (case hg => rfl); (case hr => first | (go_simp; done) | (go_simp; rfl)); intro gb434 hg w7 hbox hb; have n0_ := Aside0.mk (below_step (by repeat (first | (with_reducible first | exact HB.out | apply below_alloc | apply pw_below_drewN | apply below_drew1) | exact HB.out)) hb); have n1_ := Aside0.mk (hbox); have n2_ := Aside0.mk ((by rw [hg]; exact (below_size (by repeat (first | (with_reducible first | exact HB.out | apply below_alloc | apply pw_below_drewN | apply below_drew1) | exact HB.out))) : w.heap.size ≤ gb434)); have n3_ := Aside0.mk ((by rw [hg]; exact (below_size (by repeat (first | (with_reducible first | exact HB.out | apply below_alloc | apply pw_below_drewN | apply below_drew1) | exact HB.out))) : w.heap.size ≤ gb434)); clear HB; have HB := n0_; have BK434 := n1_; have GW434 := n2_; have GE434 := n3_; clear n0_ n1_ n2_ n3_; clear hb hbox hg; have hcz8_0 : w7.cell? ⟨gb434, 0, none⟩ = some (.slice A0_0 l0_0.length c0_0) := (blk_cell BK434.out 0).trans rfl; have hcz8_1 : w7.cell? ⟨gb434, 1, none⟩ = some (.slice A0_1 l0_1.length c0_1) := (blk_cell BK434.out 1).trans rfl; have hfz8_0 := blk_frozen BK434.out 0; have hfz8_1 := blk_frozen BK434.out 1) | (go_at_call 124; (with_reducible refine (graph_node.calls _ _ l0_0 _ _ l0_1 a1 true _ ?side1 ?side2 ?side3 ?side4 A3.out).mono ?_); (case side1 => repeat (first | exact (Kd.C_below HR0_0.out HB.out) | (with_reducible refine Kd.C_alloc ?_ _) | (with_reducible refine Kd.C_drewN ?_ _) | (with_reducible refine Kd.C_drew ?_))); (case side2 => exact HC0_0.out); (case side3 => repeat (first | exact (Kd.C_below HR0_1.out HB.out) | (with_reducible refine Kd.C_alloc ?_ _) | (with_reducible refine Kd.C_drewN ?_ _) | (with_reducible refine Kd.C_drew ?_))); (case side4 => exact HC0_1.out); rintro e w9 ⟨rfl, hb⟩; have n0_ := Aside0.mk (blk_below (g := gb434) (o := .cells #[.slice A0_0 l0_0.length c0_0, .slice A0_1 l0_1.length c0_1] 27 (0, 0)) (by (with_reducible repeat (first | refine blk_drewN ?_ _ | refine blk_drew ?_ | refine blk_alloc ?_ _)); exact BK434.out) hb); have n1_ := Aside0.mk (below_step (by repeat (first | (with_reducible first | exact HB.out | apply below_alloc | apply pw_below_drewN | apply below_drew1 | refine below_set ?_ GE434.out) | exact HB.out)) hb); clear BK434; clear HB; have BK434 := n0_; have HB := n1_; clear n0_ n1_; (try clear hb); (try clear hb2); (try clear hk); (try clear hi); have hcz10_0 : w9.cell? ⟨gb434, 0, none⟩ = some (.slice A0_0 l0_0.length c0_0) := (blk_cell BK434.out 0).trans rfl; have hcz10_1 : w9.cell? ⟨gb434, 1, none⟩ = some (.slice A0_1 l0_1.length c0_1) := (blk_cell BK434.out 1).trans rfl; have hfz10_0 := blk_frozen BK434.out 0; have hfz10_1 := blk_frozen BK434.out 1) | ((with_reducible refine gate_dst (N := 19) rfl ?_); refine Kd.R_make (Kd.int .i64) _ 3 rfl (N := 19) rfl 22 _ _ rfl (l0_1.length : Int) rfl rfl Try.underlying22 (.int .i64 0) 8 info3 rfl (by decide) (by omega) 0 (ok := fun _ => True) (okp := fun _ => True) rfl (fun _ hk => hk) trivial (of_decide_eq_true (by first | (with_reducible assumption) | assumption)) (Nat.le_trans (Nat.mul_le_mul_right _ (of_decide_eq_true (by first | (with_reducible assumption) | assumption) : (l0_1.length : Int).toNat ≤ 35184372088832)) (by omega)) (Below.refl _ _) (Nat.le_refl _) ?_; intro v437 w11 ho12 hb hg_ hnew_; clear hg_ hnew_; (first | rw [← Ny436.out] at ho12 | (simp only [Int.reduceToNat] at ho12; rw [← Ny436.out] at ho12)); have n0_ := Aside0.mk (Kd.R_lower ho12 (below_size (by repeat (first | (with_reducible first | exact HB.out | apply below_alloc | apply pw_below_drewN | apply below_drew1 | refine below_set ?_ GE434.out) | exact HB.out)))); have n1_ := Aside0.mk (blk_below (g := gb434) (o := .cells #[.slice A0_0 l0_0.length c0_0, .slice A0_1 l0_1.length c0_1] 27 (0, 0)) (by (with_reducible repeat (first | refine blk_drewN ?_ _ | refine blk_drew ?_ | refine blk_alloc ?_ _)); exact BK434.out) hb); have n2_ := Aside0.mk (below_step (by repeat (first | (with_reducible first | exact HB.out | apply below_alloc | apply pw_below_drewN | apply below_drew1 | refine below_set ?_ GE434.out) | exact HB.out)) hb); clear BK434; clear HB; have HO438 := n0_; have BK434 := n1_; have HB := n2_; clear n0_ n1_ n2_; clear hb ho12; obtain ⟨Ao13, co13, eo13⟩ := Kd.R_slice HO438.out; subst eo13)); try go_wp2_with (first | ((with_reducible refine gate_dst (N := 2) rfl ?_); refine box_event ?hg (N := 2) ?hd (cs := #[.slice A0_0 l0_0.length c0_0, .slice A0_1 l0_1.length c0_1]) (t := 27) ?hr ?_; (case hd => rfl); (case hg => rfl); (case hr => first | (go_simp; done) | (go_simp; rfl)); intro gb434 hg w7 hbox hb; have n0_ := Aside0.mk (below_step (by repeat (first | (with_reducible first | exact HB.out | apply below_alloc | apply pw_below_drewN | apply below_drew1) | exact HB.out)) hb); have n1_ := Aside0.mk (hbox); have n2_ := Aside0.mk ((by rw [hg]; exact (below_size (by repeat (first | (with_reducible first | exact HB.out | apply below_alloc | apply pw_below_drewN | apply below_drew1) | exact HB.out))) : w.heap.size ≤ gb434)); have n3_ := Aside0.mk ((by rw [hg]; exact (below_size (by repeat (first | (with_reducible first | exact HB.out | apply below_alloc | apply pw_below_drewN | apply below_drew1) | exact HB.out))) : w.heap.size ≤ gb434)); clear HB; have HB := n0_; have BK434 := n1_; have GW434 := n2_; have GE434 := n3_; clear n0_ n1_ n2_ n3_; clear hb hbox hg; have hcz8_0 : w7.cell? ⟨gb434, 0, none⟩ = some (.slice A0_0 l0_0.length c0_0) := (blk_cell BK434.out 0).trans rfl; have hcz8_1 : w7.cell? ⟨gb434, 1, none⟩ = some (.slice A0_1 l0_1.length c0_1) := (blk_cell BK434.out 1).trans rfl; have hfz8_0 := blk_frozen BK434.out 0; have hfz8_1 := blk_frozen BK434.out 1) | (go_at_call 124; (with_reducible refine (graph_node.calls _ _ l0_0 _ _ l0_1 a1 true _ ?side1 ?side2 ?side3 ?side4 A3.out).mono ?_); (case side1 => repeat (first | exact (Kd.C_below HR0_0.out HB.out) | (with_reducible refine Kd.C_alloc ?_ _) | (with_reducible refine Kd.C_drewN ?_ _) | (with_reducible refine Kd.C_drew ?_))); (case side2 => exact HC0_0.out); (case side3 => repeat (first | exact (Kd.C_below HR0_1.out HB.out) | (with_reducible refine Kd.C_alloc ?_ _) | (with_reducible refine Kd.C_drewN ?_ _) | (with_reducible refine Kd.C_drew ?_))); (case side4 => exact HC0_1.out); rintro e w9 ⟨rfl, hb⟩; have n0_ := Aside0.mk (blk_below (g := gb434) (o := .cells #[.slice A0_0 l0_0.length c0_0, .slice A0_1 l0_1.length c0_1] 27 (0, 0)) (by (with_reducible repeat (first | refine blk_drewN ?_ _ | refine blk_drew ?_ | refine blk_alloc ?_ _)); exact BK434.out) hb); have n1_ := Aside0.mk (below_step (by repeat (first | (with_reducible first | exact HB.out | apply below_alloc | apply pw_below_drewN | apply below_drew1 | refine below_set ?_ GE434.out) | exact HB.out)) hb); clear BK434; clear HB; have BK434 := n0_; have HB := n1_; clear n0_ n1_; (try clear hb); (try clear hb2); (try clear hk); (try clear hi); have hcz10_0 : w9.cell? ⟨gb434, 0, none⟩ = some (.slice A0_0 l0_0.length c0_0) := (blk_cell BK434.out 0).trans rfl; have hcz10_1 : w9.cell? ⟨gb434, 1, none⟩ = some (.slice A0_1 l0_1.length c0_1) := (blk_cell BK434.out 1).trans rfl; have hfz10_0 := blk_frozen BK434.out 0; have hfz10_1 := blk_frozen BK434.out 1) | ((with_reducible refine gate_dst (N := 19) rfl ?_); refine Kd.R_make (Kd.int .i64) _ 3 rfl (N := 19) rfl 22 _ _ rfl (l0_1.length : Int) rfl rfl Try.underlying22 (.int .i64 0) 8 info3 rfl (by decide) (by omega) 0 (ok := fun _ => True) (okp := fun _ => True) rfl (fun _ hk => hk) trivial (of_decide_eq_true (by first | (with_reducible assumption) | assumption)) (Nat.le_trans (Nat.mul_le_mul_right _ (of_decide_eq_true (by first | (with_reducible assumption) | assumption) : (l0_1.length : Int).toNat ≤ 35184372088832)) (by omega)) (Below.refl _ _) (Nat.le_refl _) ?_; intro v437 w11 ho12 hb hg_ hnew_; clear hg_ hnew_; (first | rw [← Ny436.out] at ho12 | (simp only [Int.reduceToNat] at ho12; rw [← Ny436.out] at ho12)); have n0_ := Aside0.mk (Kd.R_lower ho12 (below_size (by repeat (first | (with_reducible first | exact HB.out | apply below_alloc | apply pw_below_drewN | apply below_drew1 | refine below_set ?_ GE434.out) | exact HB.out)))); have n1_ := Aside0.mk (blk_below (g := gb434) (o := .cells #[.slice A0_0 l0_0.length c0_0, .slice A0_1 l0_1.length c0_1] 27 (0, 0)) (by (with_reducible repeat (first | refine blk_drewN ?_ _ | refine blk_drew ?_ | refine blk_alloc ?_ _)); exact BK434.out) hb); have n2_ := Aside0.mk (below_step (by repeat (first | (with_reducible first | exact HB.out | apply below_alloc | apply pw_below_drewN | apply below_drew1 | refine below_set ?_ GE434.out) | exact HB.out)) hb); clear BK434; clear HB; have HO438 := n0_; have BK434 := n1_; have HB := n2_; clear n0_ n1_ n2_; clear hb ho12; obtain ⟨Ao13, co13, eo13⟩ := Kd.R_slice HO438.out; subst eo13)))
    go_loopg [22] k (fun kq v22 w' => ∃ (x5_1 : List Int) (x22_1 : Int), v22 = .int .i64 x22_1 ∧ Aside0 (graph_Distances.l0 kq a1 x5_1 (y436.length : Int) x22_1 l0_0 l0_1 = some r) ∧ Aside0 (kq ≤ k) ∧ Aside0 (Kd.R (Kd.int .i64) 3 w' w.heap.size (fun _ => True) (.slice Ao13 y436.length co13) x5_1) ∧ Aside0 (w'.heap[gb434]? = some (.cells #[(.slice A0_0 l0_0.length c0_0), (.slice A0_1 l0_1.length c0_1)] 27 (0, 0))) ∧ Aside0 (Below w.heap.size w w'))
    case atStart => exact ⟨(y436), (0), (by first | rfl | (simp; done) | (simp [*]; done)), H', ⟨Nat.le_refl _⟩, ⟨by (with_reducible repeat (first | apply Kd.R_alloc | apply Kd.R_drewN | apply Kd.R_drew)); exact HO438.out⟩, ⟨by (with_reducible repeat (first | refine blk_drewN ?_ _ | refine blk_drew ?_ | refine blk_alloc ?_ _)); exact BK434.out⟩, ⟨by repeat (first | (with_reducible first | exact HB.out | apply below_alloc | apply pw_below_drewN | apply below_drew1 | refine below_set ?_ GE434.out) | exact HB.out)⟩⟩
    case round =>
     clear H'
     try clear p2
     try clear c4
     try clear c5
     try clear c5b0
     try clear c5b1
     try clear c6
     try clear c6b0
     try clear c6b1
     try clear c9
     try clear hcz10_0
     try clear hcz10_1
     try clear hcz8_0
     try clear hcz8_1
     try clear hfz10_0
     try clear hfz10_1
     try clear hfz8_0
     try clear hfz8_1
     obtain ⟨x5_1, x22_1, rfl, HA, HK1, HO_5, BK434, HB⟩ := hrel
     have hl5_1 := (Kd.R_reads' HO_5.out).1
     rw [hl5_1] at HO_5
     (try simp only [hl5_1])
     (try simp only [hl5_1] at BK434)
     cases gk with
     | zero => exact absurd HA.out (by simp [graph_Distances.l0])
     | succ k1 =>
      have H := HA.out
      clear HA
      simp only [graph_Distances.l0] at H
      by_cases c14 : x22_1 < (y436.length : Int)
      ·
       rw [if_pos c14] at H
       have c14b0 : decide (x22_1 < (y436.length : Int)) = true := decide_eq_true c14
       (try simp only [hl5_1] at c14b0)
       clear c14
       by_cases c15 : 0 ≤ x22_1
       ·
        rw [if_pos c15] at H
        have c15b0 : decide (0 ≤ x22_1) = true := decide_eq_true c15
        (try simp only [hl5_1] at c15b0)
        clear c15
        by_cases c16 : x22_1 < (x5_1.length : Int)
        ·
         rw [if_pos c16] at H
         have c16b0 : decide (x22_1 < (x5_1.length : Int)) = true := decide_eq_true c16
         (try simp only [hl5_1] at c16b0)
         clear c16
         obtain ⟨y439, hy439⟩ : ∃ y_ : List Int, y_ = (x5_1.set (x22_1 : Int).toNat (-1)) := ⟨_, rfl⟩
         replace H : (graph_Distances.l0 k1 a1 y439 (y436.length : Int) (wrap64 (x22_1 + 1)) l0_0 l0_1) = some r := by first | (rw [hy439]; with_reducible exact H) | (have H2_ := (Option.bind_some _ _).symm.trans H; rw [hy439]; with_reducible exact H2_) | (have H2_ := (Option.bind_some _ _).symm.trans H; with_reducible exact H2_) | with_reducible exact H | (rw [hy439]; exact H) | exact H
         have Ny439 := Aside0.mk hy439
         clear hy439
         have H' := Aside0.mk H
         clear H
         have p17 : 0 ≤ (x22_1 : Int) := of_decide_eq_true (by first | (with_reducible assumption) | assumption)
         have q17 : (x22_1 : Int) < ((x5_1.length : Int) : Int) := of_decide_eq_true (by first | (with_reducible assumption) | assumption)
         obtain ⟨go17, co17, eo17, gb17, gl17, cl17, HG17⟩ := Kd.R_form HO_5.out (by omega)
         (first | cases eo17 | (injection eo17 with ea_ en_ ec_; (first | subst ea_ | (injection ea_ with ea_; subst ea_)); subst ec_; clear en_))
         have GB17 := Aside0.mk gb17
         have GG17 := Aside0.mk HG17
         clear gb17 gl17 HG17
         obtain ⟨hx17_0, hf17_0⟩ := Kd.R_celln 0 HO_5.out (x22_1 : Int) p17 q17
         replace p17 := eq_true p17
         replace q17 := eq_true q17
         have HP18 := Kd.R_putg HO_5.out (x22_1 : Int) (-1)
         go_wp2_with (first | ((with_reducible refine gate_store (t := 3) (p := 27) rfl ?_); (try (rw [drewN_self wr]; generalize hq_ : World.drewN wr _ = wr; have n0_ := Aside0.mk (Kd.R_at hq_ HO_5.out); have n1_ := Aside0.mk (blk_at hq_ BK434.out); have n2_ := Aside0.mk (below_at hq_ HB.out); clear hq_ HO_5 BK434 HB; have HO_5 := n0_; have BK434 := n1_; have HB := n2_; clear n0_ n1_ n2_; (try (have HP18 := Kd.R_putg HO_5.out (x22_1 : Int) (-1))))); refine store_event (t := 3) (p := 27) (v := ?vo_w19) (w1 := (wr.setCell ⟨go17, (x22_1 : Int).toNat, none⟩ (.int .i64 (-1)))) ?hg ?ho ?hn ?hr ?_; (case ho => rfl); (case hg => rfl); (case hn => rfl); (case hr => first | (go_simp; done) | (go_simp; rfl)); intro w19 hw; have hg : wr.grownBy w19 (some go17) := (by rw [hw]; exact HP18.2); have hp_ : Kd.R (Kd.int .i64) 3 w19 w.heap.size (fun _ => True) (.slice (some ⟨go17, 0, none⟩) x5_1.length co13) y439 := (by rw [hw, Ny439.out]; exact HP18.1); clear HP18; have n0_ := Aside0.mk (hp_); have n1_ := Aside0.mk (blk_grown (g := gb434) (o := .cells #[.slice A0_0 l0_0.length c0_0, .slice A0_1 l0_1.length c0_1] 27 (0, 0)) (by (with_reducible repeat (first | refine blk_drewN ?_ _ | refine blk_drew ?_ | refine blk_alloc ?_ _)); exact BK434.out) hg (Kd.R_ne HO_5.out BK434.out (by decide))); have n2_ := Aside0.mk ((by rw [hw]; exact below_set (HB.out) GB17.out : Below w.heap.size w w19)); clear HO_5; clear BK434; clear HB; have HO_5 := n0_; have BK434 := n1_; have HB := n2_; clear n0_ n1_ n2_; clear hg hw hp_))
         repeat (go_quiet (first | ((with_reducible refine gate_store (t := 3) (p := 27) rfl ?_); (try (rw [drewN_self wr]; generalize hq_ : World.drewN wr _ = wr; have n0_ := Aside0.mk (Kd.R_at hq_ HO_5.out); have n1_ := Aside0.mk (blk_at hq_ BK434.out); have n2_ := Aside0.mk (below_at hq_ HB.out); clear hq_ HO_5 BK434 HB; have HO_5 := n0_; have BK434 := n1_; have HB := n2_; clear n0_ n1_ n2_; (try (have HP18 := Kd.R_putg HO_5.out (x22_1 : Int) (-1))))); refine store_event (t := 3) (p := 27) (v := ?vo_w19) (w1 := (wr.setCell ⟨go17, (x22_1 : Int).toNat, none⟩ (.int .i64 (-1)))) ?hg ?ho ?hn ?hr ?_; (case ho => rfl); (case hg => rfl); (case hn => rfl); (case hr => first | (go_simp; done) | (go_simp; rfl)); intro w19 hw; have hg : wr.grownBy w19 (some go17) := (by rw [hw]; exact HP18.2); have hp_ : Kd.R (Kd.int .i64) 3 w19 w.heap.size (fun _ => True) (.slice (some ⟨go17, 0, none⟩) x5_1.length co13) y439 := (by rw [hw, Ny439.out]; exact HP18.1); clear HP18; have n0_ := Aside0.mk (hp_); have n1_ := Aside0.mk (blk_grown (g := gb434) (o := .cells #[.slice A0_0 l0_0.length c0_0, .slice A0_1 l0_1.length c0_1] 27 (0, 0)) (by (with_reducible repeat (first | refine blk_drewN ?_ _ | refine blk_drew ?_ | refine blk_alloc ?_ _)); exact BK434.out) hg (Kd.R_ne HO_5.out BK434.out (by decide))); have n2_ := Aside0.mk ((by rw [hw]; exact below_set (HB.out) GB17.out : Below w.heap.size w w19)); clear HO_5; clear BK434; clear HB; have HO_5 := n0_; have BK434 := n1_; have HB := n2_; clear n0_ n1_ n2_; clear hg hw hp_)); try go_wp2_with (first | ((with_reducible refine gate_store (t := 3) (p := 27) rfl ?_); (try (rw [drewN_self wr]; generalize hq_ : World.drewN wr _ = wr; have n0_ := Aside0.mk (Kd.R_at hq_ HO_5.out); have n1_ := Aside0.mk (blk_at hq_ BK434.out); have n2_ := Aside0.mk (below_at hq_ HB.out); clear hq_ HO_5 BK434 HB; have HO_5 := n0_; have BK434 := n1_; have HB := n2_; clear n0_ n1_ n2_; (try (have HP18 := Kd.R_putg HO_5.out (x22_1 : Int) (-1))))); refine store_event (t := 3) (p := 27) (v := ?vo_w19) (w1 := (wr.setCell ⟨go17, (x22_1 : Int).toNat, none⟩ (.int .i64 (-1)))) ?hg ?ho ?hn ?hr ?_; (case ho => rfl); (case hg => rfl); (case hn => rfl); (case hr => first | (go_simp; done) | (go_simp; rfl)); intro w19 hw; have hg : wr.grownBy w19 (some go17) := (by rw [hw]; exact HP18.2); have hp_ : Kd.R (Kd.int .i64) 3 w19 w.heap.size (fun _ => True) (.slice (some ⟨go17, 0, none⟩) x5_1.length co13) y439 := (by rw [hw, Ny439.out]; exact HP18.1); clear HP18; have n0_ := Aside0.mk (hp_); have n1_ := Aside0.mk (blk_grown (g := gb434) (o := .cells #[.slice A0_0 l0_0.length c0_0, .slice A0_1 l0_1.length c0_1] 27 (0, 0)) (by (with_reducible repeat (first | refine blk_drewN ?_ _ | refine blk_drew ?_ | refine blk_alloc ?_ _)); exact BK434.out) hg (Kd.R_ne HO_5.out BK434.out (by decide))); have n2_ := Aside0.mk ((by rw [hw]; exact below_set (HB.out) GB17.out : Below w.heap.size w w19)); clear HO_5; clear BK434; clear HB; have HO_5 := n0_; have BK434 := n1_; have HB := n2_; clear n0_ n1_ n2_; clear hg hw hp_)))
         (try simp only [← hl5_1])
         go_roundg k1
         case measure => have := HK1.out; omega
         case rel => exact ⟨(y439), (wrap64 (x22_1 + 1)), (by first | rfl | (simp; done) | (simp [*]; done)), H', ⟨by have := HK1.out; omega⟩, ⟨by (try simp only [hl5_1]); (with_reducible repeat (first | apply Kd.R_alloc | apply Kd.R_drewN | apply Kd.R_drew)); exact HO_5.out⟩, ⟨by (try simp only [hl5_1]); (with_reducible repeat (first | refine blk_drewN ?_ _ | refine blk_drew ?_ | refine blk_alloc ?_ _)); exact BK434.out⟩, ⟨by repeat (first | (with_reducible first | exact HB.out | apply below_alloc | apply pw_below_drewN | apply below_drew1 | refine below_set ?_ GE434.out) | exact HB.out)⟩⟩
        ·
         rw [if_neg c16] at H
         exact absurd H (by simp)
       ·
        rw [if_neg c15] at H
        exact absurd H (by simp)
      ·
       rw [if_neg c14] at H
       have c14b0 : decide (x22_1 < (y436.length : Int)) = false := decide_eq_false c14
       (try simp only [hl5_1] at c14b0)
       clear c14
       by_cases c20 : 0 ≤ a1
       ·
        rw [if_pos c20] at H
        have c20b0 := eq_true c20
        have c20b1 : decide (0 ≤ a1) = true := decide_eq_true c20
        (try simp only [hl5_1] at c20b1)
        clear c20
        obtain ⟨ji21, hji21⟩ : ∃ j_ : Int, (shl .u32 1 a1) = j_ := ⟨_, rfl⟩
        replace H : (graph_Distances.l1 k1 x5_1 0 0 ji21 l0_0 l0_1) = some r := by first | (rw [hji21] at H; exact H) | (simp only [hji21] at H ⊢; exact H)
        have hji21_ : (IntKind.u32.wrap (1 * 2 ^ min a1.toNat 32)) = ji21 := hji21
        have hji21z : a1 ≤ 32 → (IntKind.u32.wrap (1 * 2 ^ a1.toNat)) = ji21 := shl_small hji21
        have hji21u : (IntKind.u32.wrap (2 ^ min a1.toNat 32)) = ji21 := by have h_ := hji21_; rw [Int.one_mul] at h_; exact h_
        have hji21v : a1 ≤ 32 → (IntKind.u32.wrap (2 ^ a1.toNat)) = ji21 := fun hle_ => by have h_ := hji21z hle_; rw [Int.one_mul] at h_; exact h_
        have H' := Aside0.mk H
        clear H
        go_wp2
        repeat (go_quiet (fail); try go_wp2)
        go_loopg [7, 8, 9] k1 (fun kq v7 v8 v9 w' => ∃ (x5_2 : List Int) (x7_2 : Int) (x8_2 : Int) (x9_2 : Int), v7 = .int .u32 x7_2 ∧ v8 = .int .i64 x8_2 ∧ v9 = .int .u32 x9_2 ∧ Aside0 (graph_Distances.l1 kq x5_2 x7_2 x8_2 x9_2 l0_0 l0_1 = some r) ∧ Aside0 (kq ≤ k1) ∧ Aside0 (Kd.R (Kd.int .i64) 3 w' w.heap.size (fun _ => True) (.slice Ao13 x5_1.length co13) x5_2) ∧ Aside0 (w'.heap[gb434]? = some (.cells #[(.slice A0_0 l0_0.length c0_0), (.slice A0_1 l0_1.length c0_1)] 27 (0, 0))) ∧ Aside0 (Below w.heap.size w w'))
        case atStart => exact ⟨(x5_1), (0), (0), (ji21), (by first | rfl | (simp; done) | (simp [*]; done)), (by first | rfl | (simp; done) | (simp [*]; done)), (by first | rfl | (simp; done) | (simp only [← hji21] <;> (first | rfl | simp)) | (simp [*]; done)), H', ⟨Nat.le_refl _⟩, ⟨by (try simp only [hl5_1]); (with_reducible repeat (first | apply Kd.R_alloc | apply Kd.R_drewN | apply Kd.R_drew)); exact HO_5.out⟩, ⟨by (try simp only [hl5_1]); (with_reducible repeat (first | refine blk_drewN ?_ _ | refine blk_drew ?_ | refine blk_alloc ?_ _)); exact BK434.out⟩, ⟨by repeat (first | (with_reducible first | exact HB.out | apply below_alloc | apply pw_below_drewN | apply below_drew1 | refine below_set ?_ GE434.out) | exact HB.out)⟩⟩
        case round =>
         clear H'
         try clear c1
         try clear p1
         try clear q1
         try clear hx1
         try clear c2
         try clear p2
         try clear c4
         try clear c5
         try clear c5b0
         try clear c5b1
         try clear c6
         try clear c6b0
         try clear c6b1
         try clear p6
         try clear c9
         try clear c14
         try clear c14b0
         try clear c15
         try clear c15b0
         try clear c16
         try clear c16b0
         try clear p17
         try clear q17
         try clear hx17
         try clear hf17
         try clear c20
         try clear c20b0
         try clear c20b1
         try clear hcz10_0
         try clear hcz10_1
         try clear hcz8_0
         try clear hcz8_1
         try clear hfz10_0
         try clear hfz10_1
         try clear hfz8_0
         try clear hfz8_1
         try clear hx17_0
         try clear p17
         try clear p2
         try clear q17
         obtain ⟨x5_2, x7_2, x8_2, x9_2, rfl, rfl, rfl, HA, HK2, HO_5, BK434, HB⟩ := hrel
         have hl5_2 := (Kd.R_reads' HO_5.out).1
         rw [hl5_2] at HO_5
         (try simp only [hl5_2])
         (try simp only [hl5_2] at BK434)
         cases gk with
         | zero => exact absurd HA.out (by simp [graph_Distances.l1])
         | succ k2 =>
          have H := HA.out
          clear HA
          simp only [graph_Distances.l1] at H
          by_cases c22 : x9_2 = 0
          ·
           rw [if_pos c22] at H
           have c22b0 : (x9_2 == 0) = true := beq_iff_eq.mpr c22
           have c22b1 : (x9_2 != 0) = false := bne_eq_false_iff_eq.mpr c22
           clear c22
           obtain rfl := Option.some.inj H
           go_wp2
           repeat (go_quiet (fail); try go_wp2)
           go_ret
           exact ⟨_, by first | rfl | (simp [errW_none, errW_some] <;> rfl) | (simp only [← hji21]; first | rfl | (simp [errW_none, errW_some] <;> rfl)) | (simp [*, errW_none, errW_some] <;> rfl), by (with_reducible repeat (first | apply Kd.R_alloc | apply Kd.R_drewN | apply Kd.R_drew)); exact HO_5.out, by repeat (first | (with_reducible first | exact HB.out | apply below_alloc | apply pw_below_drewN | apply below_drew1 | refine below_set ?_ GE434.out) | exact HB.out)⟩
          ·
           rw [if_neg c22] at H
           have c22b0 : (x9_2 == 0) = false := beq_eq_false_iff_ne.mpr c22
           have c22b1 : (x9_2 != 0) = true := bne_iff_ne.mpr c22
           have H' := Aside0.mk H
           clear H
           go_wp2
           repeat (go_quiet (fail); try go_wp2)
           go_loopg [10, 40] k2 (fun kq v10 v40 w' => ∃ (x5_3 : List Int) (x10_3 : Int) (x40_3 : Int), v10 = .int .u32 x10_3 ∧ v40 = .int .i64 x40_3 ∧ Aside0 (graph_Distances.l2 kq x5_3 (Go.bits .or .u32 x7_2 x9_2) x8_2 x9_2 x10_3 (x5_2.length : Int) x40_3 l0_0 l0_1 = some r) ∧ Aside0 (kq ≤ k2) ∧ Aside0 (Kd.R (Kd.int .i64) 3 w' w.heap.size (fun _ => True) (.slice Ao13 x5_2.length co13) x5_3) ∧ Aside0 (w'.heap[gb434]? = some (.cells #[(.slice A0_0 l0_0.length c0_0), (.slice A0_1 l0_1.length c0_1)] 27 (0, 0))) ∧ Aside0 (Below w.heap.size w w'))
           case atStart => exact ⟨(x5_2), (0), (0), (by first | rfl | (simp; done) | (simp [*]; done)), (by first | rfl | (simp; done) | (simp [*]; done)), H', ⟨Nat.le_refl _⟩, ⟨by (try simp only [hl5_1]); (try simp only [hl5_2]); (with_reducible repeat (first | apply Kd.R_alloc | apply Kd.R_drewN | apply Kd.R_drew)); exact HO_5.out⟩, ⟨by (try simp only [hl5_1]); (try simp only [hl5_2]); (with_reducible repeat (first | refine blk_drewN ?_ _ | refine blk_drew ?_ | refine blk_alloc ?_ _)); exact BK434.out⟩, ⟨by repeat (first | (with_reducible first | exact HB.out | apply below_alloc | apply pw_below_drewN | apply below_drew1 | refine below_set ?_ GE434.out) | exact HB.out)⟩⟩
           case round =>
            clear H'
            try clear c1
            try clear p1
            try clear q1
            try clear hx1
            try clear c2
            try clear p2
            try clear c4
            try clear c5
            try clear c5b0
            try clear c5b1
            try clear c6
            try clear c6b0
            try clear c6b1
            try clear p6
            try clear c9
            try clear c14
            try clear c14b0
            try clear c15
            try clear c15b0
            try clear c16
            try clear c16b0
            try clear p17
            try clear q17
            try clear hx17
            try clear hf17
            try clear c20
            try clear c20b0
            try clear c20b1
            try clear c22
            try clear c22b0
            try clear c22b1
            try clear hcz10_0
            try clear hcz10_1
            try clear hcz8_0
            try clear hcz8_1
            try clear hfz10_0
            try clear hfz10_1
            try clear hfz8_0
            try clear hfz8_1
            try clear hx17_0
            try clear p1
            try clear p17
            try clear p2
            try clear p6
            try clear q1
            try clear q17
            obtain ⟨x5_3, x10_3, x40_3, rfl, rfl, HA, HK3, HO_5, BK434, HB⟩ := hrel
            have hl5_3 := (Kd.R_reads' HO_5.out).1
            rw [hl5_3] at HO_5
            (try simp only [hl5_3])
            (try simp only [hl5_3] at BK434)
            cases gk with
            | zero => exact absurd HA.out (by simp [graph_Distances.l2])
            | succ k3 =>
             have H := HA.out
             clear HA
             simp only [graph_Distances.l2] at H
             by_cases c23 : x40_3 < (x5_2.length : Int)
             ·
              rw [if_pos c23] at H
              have c23b0 : decide (x40_3 < (x5_2.length : Int)) = true := decide_eq_true c23
              (try simp only [hl5_1, hl5_2, hl5_3] at c23b0)
              clear c23
              by_cases c24 : 0 ≤ x40_3
              ·
               rw [if_pos c24] at H
               have c24b0 := eq_true c24
               have c24b1 : decide (0 ≤ x40_3) = true := decide_eq_true c24
               (try simp only [hl5_1, hl5_2, hl5_3] at c24b1)
               clear c24
               obtain ⟨ji25, hji25⟩ : ∃ j_ : Int, (shr .u32 x9_2 x40_3) = j_ := ⟨_, rfl⟩
               replace H : (if (Go.bits .and .u32 (ji25) 1) = 1 then (if x40_3 < (x5_3.length : Int) then ((graph_around.f l0_0 l0_1 x40_3).bind fun t441 => (graph_Distances.l2 k3 (x5_3.set (x40_3 : Int).toNat x8_2) (Go.bits .or .u32 x7_2 x9_2) x8_2 x9_2 (Go.bits .or .u32 x10_3 t441) (x5_2.length : Int) (wrap64 (x40_3 + 1)) l0_0 l0_1)) else (none)) else (graph_Distances.l2 k3 x5_3 (Go.bits .or .u32 x7_2 x9_2) x8_2 x9_2 x10_3 (x5_2.length : Int) (wrap64 (x40_3 + 1)) l0_0 l0_1)) = some r := by first | (rw [hji25] at H; exact H) | (simp only [hji25] at H ⊢; exact H)
               have hji25_ : (x9_2 / 2 ^ min x40_3.toNat 32) = ji25 := hji25
               have hji25z : x40_3 ≤ 32 → (x9_2 / 2 ^ x40_3.toNat) = ji25 := shr_small hji25
               by_cases c26 : (Go.bits .and .u32 (ji25) 1) = 1
               ·
                rw [if_pos c26] at H
                have c26b0 : ((Go.bits .and .u32 (ji25) 1) == 1) = true := beq_iff_eq.mpr c26
                have c26b1 : ((Go.bits .and .u32 (ji25) 1) != 1) = false := bne_eq_false_iff_eq.mpr c26
                clear c26
                by_cases c27 : x40_3 < (x5_3.length : Int)
                ·
                 rw [if_pos c27] at H
                 have c27b0 : decide (x40_3 < (x5_3.length : Int)) = true := decide_eq_true c27
                 (try simp only [hl5_1, hl5_2, hl5_3] at c27b0)
                 clear c27
                 obtain ⟨y440, hy440⟩ : ∃ y_ : List Int, y_ = (x5_3.set (x40_3 : Int).toNat x8_2) := ⟨_, rfl⟩
                 replace H : ((graph_around.f l0_0 l0_1 x40_3).bind fun t441 => (graph_Distances.l2 k3 y440 (Go.bits .or .u32 x7_2 x9_2) x8_2 x9_2 (Go.bits .or .u32 x10_3 t441) (x5_2.length : Int) (wrap64 (x40_3 + 1)) l0_0 l0_1)) = some r := by first | (rw [hy440]; with_reducible exact H) | (have H2_ := (Option.bind_some _ _).symm.trans H; rw [hy440]; with_reducible exact H2_) | (have H2_ := (Option.bind_some _ _).symm.trans H; with_reducible exact H2_) | with_reducible exact H | (rw [hy440]; exact H) | exact H
                 have Ny440 := Aside0.mk hy440
                 clear hy440
                 replace H := Option.bind_eq_some_iff.mp H
                 obtain ⟨t441, A290, H⟩ := H
                 replace H : (graph_Distances.l2 k3 y440 (Go.bits .or .u32 x7_2 x9_2) x8_2 x9_2 (Go.bits .or .u32 x10_3 t441) (x5_2.length : Int) (wrap64 (x40_3 + 1)) l0_0 l0_1) = some r := H
                 have A29 := Aside0.mk A290
                 clear A290
                 have H' := Aside0.mk H
                 clear H
                 have p28 : 0 ≤ (x40_3 : Int) := of_decide_eq_true (by first | (with_reducible assumption) | assumption)
                 have q28 : (x40_3 : Int) < ((x5_3.length : Int) : Int) := of_decide_eq_true (by first | (with_reducible assumption) | assumption)
                 obtain ⟨go28, co28, eo28, gb28, gl28, cl28, HG28⟩ := Kd.R_form HO_5.out (by omega)
                 (first | cases eo28 | (injection eo28 with ea_ en_ ec_; (first | subst ea_ | (injection ea_ with ea_; subst ea_)); subst ec_; clear en_))
                 have GB28 := Aside0.mk gb28
                 have GG28 := Aside0.mk HG28
                 clear gb28 gl28 HG28
                 obtain ⟨hx28_0, hf28_0⟩ := Kd.R_celln 0 HO_5.out (x40_3 : Int) p28 q28
                 replace p28 := eq_true p28
                 replace q28 := eq_true q28
                 have HP30 := Kd.R_putg HO_5.out (x40_3 : Int) x8_2
                 go_wp2_with (first | ((with_reducible refine gate_store (t := 3) (p := 51) rfl ?_); (try (rw [drewN_self wr]; generalize hq_ : World.drewN wr _ = wr; have n0_ := Aside0.mk (Kd.R_at hq_ HO_5.out); have n1_ := Aside0.mk (blk_at hq_ BK434.out); have n2_ := Aside0.mk (below_at hq_ HB.out); clear hq_ HO_5 BK434 HB; have HO_5 := n0_; have BK434 := n1_; have HB := n2_; clear n0_ n1_ n2_; (try (have HP30 := Kd.R_putg HO_5.out (x40_3 : Int) x8_2)))); refine store_event (t := 3) (p := 51) (v := ?vo_w31) (w1 := (wr.setCell ⟨go28, (x40_3 : Int).toNat, none⟩ (.int .i64 x8_2))) ?hg ?ho ?hn ?hr ?_; (case ho => rfl); (case hg => rfl); (case hn => rfl); (case hr => first | (go_simp; done) | (go_simp; rfl)); intro w31 hw; have hg : wr.grownBy w31 (some go28) := (by rw [hw]; exact HP30.2); have hp_ : Kd.R (Kd.int .i64) 3 w31 w.heap.size (fun _ => True) (.slice (some ⟨go28, 0, none⟩) x5_3.length co13) y440 := (by rw [hw, Ny440.out]; exact HP30.1); clear HP30; have n0_ := Aside0.mk (hp_); have n1_ := Aside0.mk (blk_grown (g := gb434) (o := .cells #[.slice A0_0 l0_0.length c0_0, .slice A0_1 l0_1.length c0_1] 27 (0, 0)) (by (with_reducible repeat (first | refine blk_drewN ?_ _ | refine blk_drew ?_ | refine blk_alloc ?_ _)); exact BK434.out) hg (Kd.R_ne HO_5.out BK434.out (by decide))); have n2_ := Aside0.mk ((by rw [hw]; exact below_set (HB.out) GB28.out : Below w.heap.size w w31)); clear HO_5; clear BK434; clear HB; have HO_5 := n0_; have BK434 := n1_; have HB := n2_; clear n0_ n1_ n2_; clear hg hw hp_; have hcz32_0 : w31.cell? ⟨gb434, 0, none⟩ = some (.slice A0_0 l0_0.length c0_0) := (blk_cell BK434.out 0).trans rfl; have hcz32_1 : w31.cell? ⟨gb434, 1, none⟩ = some (.slice A0_1 l0_1.length c0_1) := (blk_cell BK434.out 1).trans rfl; have hfz32_0 := blk_frozen BK434.out 0; have hfz32_1 := blk_frozen BK434.out 1) | (go_at_call 119; (with_reducible refine (graph_around.calls _ _ l0_0 _ _ l0_1 x40_3 t441 _ ?side1 ?side2 ?side3 ?side4 A29.out).mono ?_); (case side1 => repeat (first | exact (Kd.C_below HR0_0.out HB.out) | (with_reducible refine Kd.C_alloc ?_ _) | (with_reducible refine Kd.C_drewN ?_ _) | (with_reducible refine Kd.C_drew ?_))); (case side2 => exact HC0_0.out); (case side3 => repeat (first | exact (Kd.C_below HR0_1.out HB.out) | (with_reducible refine Kd.C_alloc ?_ _) | (with_reducible refine Kd.C_drewN ?_ _) | (with_reducible refine Kd.C_drew ?_))); (case side4 => exact HC0_1.out); rintro e w33 ⟨rfl, hb⟩; have n0_ := Aside0.mk (Kd.R_below (by (with_reducible repeat (first | apply Kd.R_alloc | apply Kd.R_drewN | apply Kd.R_drew)); exact HO_5.out) hb); have n1_ := Aside0.mk (blk_below (g := gb434) (o := .cells #[.slice A0_0 l0_0.length c0_0, .slice A0_1 l0_1.length c0_1] 27 (0, 0)) (by (with_reducible repeat (first | refine blk_drewN ?_ _ | refine blk_drew ?_ | refine blk_alloc ?_ _)); exact BK434.out) hb); have n2_ := Aside0.mk (below_step (by repeat (first | (with_reducible first | exact HB.out | apply below_alloc | apply pw_below_drewN | apply below_drew1 | refine below_set ?_ GE434.out) | exact HB.out)) hb); clear HO_5; clear BK434; clear HB; have HO_5 := n0_; have BK434 := n1_; have HB := n2_; clear n0_ n1_ n2_; (try clear hb); (try clear hb2); (try clear hk); (try clear hi)))
                 repeat (go_quiet (first | ((with_reducible refine gate_store (t := 3) (p := 51) rfl ?_); (try (rw [drewN_self wr]; generalize hq_ : World.drewN wr _ = wr; have n0_ := Aside0.mk (Kd.R_at hq_ HO_5.out); have n1_ := Aside0.mk (blk_at hq_ BK434.out); have n2_ := Aside0.mk (below_at hq_ HB.out); clear hq_ HO_5 BK434 HB; have HO_5 := n0_; have BK434 := n1_; have HB := n2_; clear n0_ n1_ n2_; (try (have HP30 := Kd.R_putg HO_5.out (x40_3 : Int) x8_2)))); refine store_event (t := 3) (p := 51) (v := ?vo_w31) (w1 := (wr.setCell ⟨go28, (x40_3 : Int).toNat, none⟩ (.int .i64 x8_2))) ?hg ?ho ?hn ?hr ?_; (case ho => rfl); (case hg => rfl); (case hn => rfl); (case hr => first | (go_simp; done) | (go_simp; rfl)); intro w31 hw; have hg : wr.grownBy w31 (some go28) := (by rw [hw]; exact HP30.2); have hp_ : Kd.R (Kd.int .i64) 3 w31 w.heap.size (fun _ => True) (.slice (some ⟨go28, 0, none⟩) x5_3.length co13) y440 := (by rw [hw, Ny440.out]; exact HP30.1); clear HP30; have n0_ := Aside0.mk (hp_); have n1_ := Aside0.mk (blk_grown (g := gb434) (o := .cells #[.slice A0_0 l0_0.length c0_0, .slice A0_1 l0_1.length c0_1] 27 (0, 0)) (by (with_reducible repeat (first | refine blk_drewN ?_ _ | refine blk_drew ?_ | refine blk_alloc ?_ _)); exact BK434.out) hg (Kd.R_ne HO_5.out BK434.out (by decide))); have n2_ := Aside0.mk ((by rw [hw]; exact below_set (HB.out) GB28.out : Below w.heap.size w w31)); clear HO_5; clear BK434; clear HB; have HO_5 := n0_; have BK434 := n1_; have HB := n2_; clear n0_ n1_ n2_; clear hg hw hp_; have hcz32_0 : w31.cell? ⟨gb434, 0, none⟩ = some (.slice A0_0 l0_0.length c0_0) := (blk_cell BK434.out 0).trans rfl; have hcz32_1 : w31.cell? ⟨gb434, 1, none⟩ = some (.slice A0_1 l0_1.length c0_1) := (blk_cell BK434.out 1).trans rfl; have hfz32_0 := blk_frozen BK434.out 0; have hfz32_1 := blk_frozen BK434.out 1) | (go_at_call 119; (with_reducible refine (graph_around.calls _ _ l0_0 _ _ l0_1 x40_3 t441 _ ?side1 ?side2 ?side3 ?side4 A29.out).mono ?_); (case side1 => repeat (first | exact (Kd.C_below HR0_0.out HB.out) | (with_reducible refine Kd.C_alloc ?_ _) | (with_reducible refine Kd.C_drewN ?_ _) | (with_reducible refine Kd.C_drew ?_))); (case side2 => exact HC0_0.out); (case side3 => repeat (first | exact (Kd.C_below HR0_1.out HB.out) | (with_reducible refine Kd.C_alloc ?_ _) | (with_reducible refine Kd.C_drewN ?_ _) | (with_reducible refine Kd.C_drew ?_))); (case side4 => exact HC0_1.out); rintro e w33 ⟨rfl, hb⟩; have n0_ := Aside0.mk (Kd.R_below (by (with_reducible repeat (first | apply Kd.R_alloc | apply Kd.R_drewN | apply Kd.R_drew)); exact HO_5.out) hb); have n1_ := Aside0.mk (blk_below (g := gb434) (o := .cells #[.slice A0_0 l0_0.length c0_0, .slice A0_1 l0_1.length c0_1] 27 (0, 0)) (by (with_reducible repeat (first | refine blk_drewN ?_ _ | refine blk_drew ?_ | refine blk_alloc ?_ _)); exact BK434.out) hb); have n2_ := Aside0.mk (below_step (by repeat (first | (with_reducible first | exact HB.out | apply below_alloc | apply pw_below_drewN | apply below_drew1 | refine below_set ?_ GE434.out) | exact HB.out)) hb); clear HO_5; clear BK434; clear HB; have HO_5 := n0_; have BK434 := n1_; have HB := n2_; clear n0_ n1_ n2_; (try clear hb); (try clear hb2); (try clear hk); (try clear hi))); try go_wp2_with (first | ((with_reducible refine gate_store (t := 3) (p := 51) rfl ?_); (try (rw [drewN_self wr]; generalize hq_ : World.drewN wr _ = wr; have n0_ := Aside0.mk (Kd.R_at hq_ HO_5.out); have n1_ := Aside0.mk (blk_at hq_ BK434.out); have n2_ := Aside0.mk (below_at hq_ HB.out); clear hq_ HO_5 BK434 HB; have HO_5 := n0_; have BK434 := n1_; have HB := n2_; clear n0_ n1_ n2_; (try (have HP30 := Kd.R_putg HO_5.out (x40_3 : Int) x8_2)))); refine store_event (t := 3) (p := 51) (v := ?vo_w31) (w1 := (wr.setCell ⟨go28, (x40_3 : Int).toNat, none⟩ (.int .i64 x8_2))) ?hg ?ho ?hn ?hr ?_; (case ho => rfl); (case hg => rfl); (case hn => rfl); (case hr => first | (go_simp; done) | (go_simp; rfl)); intro w31 hw; have hg : wr.grownBy w31 (some go28) := (by rw [hw]; exact HP30.2); have hp_ : Kd.R (Kd.int .i64) 3 w31 w.heap.size (fun _ => True) (.slice (some ⟨go28, 0, none⟩) x5_3.length co13) y440 := (by rw [hw, Ny440.out]; exact HP30.1); clear HP30; have n0_ := Aside0.mk (hp_); have n1_ := Aside0.mk (blk_grown (g := gb434) (o := .cells #[.slice A0_0 l0_0.length c0_0, .slice A0_1 l0_1.length c0_1] 27 (0, 0)) (by (with_reducible repeat (first | refine blk_drewN ?_ _ | refine blk_drew ?_ | refine blk_alloc ?_ _)); exact BK434.out) hg (Kd.R_ne HO_5.out BK434.out (by decide))); have n2_ := Aside0.mk ((by rw [hw]; exact below_set (HB.out) GB28.out : Below w.heap.size w w31)); clear HO_5; clear BK434; clear HB; have HO_5 := n0_; have BK434 := n1_; have HB := n2_; clear n0_ n1_ n2_; clear hg hw hp_; have hcz32_0 : w31.cell? ⟨gb434, 0, none⟩ = some (.slice A0_0 l0_0.length c0_0) := (blk_cell BK434.out 0).trans rfl; have hcz32_1 : w31.cell? ⟨gb434, 1, none⟩ = some (.slice A0_1 l0_1.length c0_1) := (blk_cell BK434.out 1).trans rfl; have hfz32_0 := blk_frozen BK434.out 0; have hfz32_1 := blk_frozen BK434.out 1) | (go_at_call 119; (with_reducible refine (graph_around.calls _ _ l0_0 _ _ l0_1 x40_3 t441 _ ?side1 ?side2 ?side3 ?side4 A29.out).mono ?_); (case side1 => repeat (first | exact (Kd.C_below HR0_0.out HB.out) | (with_reducible refine Kd.C_alloc ?_ _) | (with_reducible refine Kd.C_drewN ?_ _) | (with_reducible refine Kd.C_drew ?_))); (case side2 => exact HC0_0.out); (case side3 => repeat (first | exact (Kd.C_below HR0_1.out HB.out) | (with_reducible refine Kd.C_alloc ?_ _) | (with_reducible refine Kd.C_drewN ?_ _) | (with_reducible refine Kd.C_drew ?_))); (case side4 => exact HC0_1.out); rintro e w33 ⟨rfl, hb⟩; have n0_ := Aside0.mk (Kd.R_below (by (with_reducible repeat (first | apply Kd.R_alloc | apply Kd.R_drewN | apply Kd.R_drew)); exact HO_5.out) hb); have n1_ := Aside0.mk (blk_below (g := gb434) (o := .cells #[.slice A0_0 l0_0.length c0_0, .slice A0_1 l0_1.length c0_1] 27 (0, 0)) (by (with_reducible repeat (first | refine blk_drewN ?_ _ | refine blk_drew ?_ | refine blk_alloc ?_ _)); exact BK434.out) hb); have n2_ := Aside0.mk (below_step (by repeat (first | (with_reducible first | exact HB.out | apply below_alloc | apply pw_below_drewN | apply below_drew1 | refine below_set ?_ GE434.out) | exact HB.out)) hb); clear HO_5; clear BK434; clear HB; have HO_5 := n0_; have BK434 := n1_; have HB := n2_; clear n0_ n1_ n2_; (try clear hb); (try clear hb2); (try clear hk); (try clear hi))))
                 (try simp only [← hl5_3])
                 go_roundg k3
                 case measure => have := HK1.out; have := HK2.out; have := HK3.out; omega
                 case rel => exact ⟨(y440), (Go.bits .or .u32 x10_3 t441), (wrap64 (x40_3 + 1)), (by first | rfl | (simp; done) | (simp [*]; done)), (by first | rfl | (simp; done) | (simp [*]; done)), H', ⟨by have := HK1.out; have := HK2.out; have := HK3.out; omega⟩, ⟨by (try simp only [hl5_1]); (try simp only [hl5_2]); (try simp only [hl5_3]); (with_reducible repeat (first | apply Kd.R_alloc | apply Kd.R_drewN | apply Kd.R_drew)); exact HO_5.out⟩, ⟨by (try simp only [hl5_1]); (try simp only [hl5_2]); (try simp only [hl5_3]); (with_reducible repeat (first | refine blk_drewN ?_ _ | refine blk_drew ?_ | refine blk_alloc ?_ _)); exact BK434.out⟩, ⟨by repeat (first | (with_reducible first | exact HB.out | apply below_alloc | apply pw_below_drewN | apply below_drew1 | refine below_set ?_ GE434.out) | exact HB.out)⟩⟩
                ·
                 rw [if_neg c27] at H
                 exact absurd H (by simp)
               ·
                rw [if_neg c26] at H
                have c26b0 : ((Go.bits .and .u32 (ji25) 1) == 1) = false := beq_eq_false_iff_ne.mpr c26
                have c26b1 : ((Go.bits .and .u32 (ji25) 1) != 1) = true := bne_iff_ne.mpr c26
                have H' := Aside0.mk H
                clear H
                go_wp2
                repeat (go_quiet (fail); try go_wp2)
                (try simp only [← hl5_3])
                go_roundg k3
                case measure => have := HK1.out; have := HK2.out; have := HK3.out; omega
                case rel => exact ⟨(x5_3), (x10_3), (wrap64 (x40_3 + 1)), (by first | rfl | (simp; done) | (simp [*]; done)), (by first | rfl | (simp; done) | (simp [*]; done)), H', ⟨by have := HK1.out; have := HK2.out; have := HK3.out; omega⟩, ⟨by (try simp only [hl5_1]); (try simp only [hl5_2]); (try simp only [hl5_3]); (with_reducible repeat (first | apply Kd.R_alloc | apply Kd.R_drewN | apply Kd.R_drew)); exact HO_5.out⟩, ⟨by (try simp only [hl5_1]); (try simp only [hl5_2]); (try simp only [hl5_3]); (with_reducible repeat (first | refine blk_drewN ?_ _ | refine blk_drew ?_ | refine blk_alloc ?_ _)); exact BK434.out⟩, ⟨by repeat (first | (with_reducible first | exact HB.out | apply below_alloc | apply pw_below_drewN | apply below_drew1 | refine below_set ?_ GE434.out) | exact HB.out)⟩⟩
              ·
               rw [if_neg c24] at H
               exact absurd H (by simp)
             ·
              rw [if_neg c23] at H
              have c23b0 : decide (x40_3 < (x5_2.length : Int)) = false := decide_eq_false c23
              (try simp only [hl5_1, hl5_2, hl5_3] at c23b0)
              clear c23
              have H' := Aside0.mk H
              clear H
              go_wp2
              repeat (go_quiet (fail); try go_wp2)
              (try simp only [← hl5_2, ← hl5_3])
              go_roundg k3
              case measure => have := HK1.out; have := HK2.out; have := HK3.out; omega
              case rel => exact ⟨(x5_3), ((Go.bits .or .u32 x7_2 x9_2)), (wrap64 (x8_2 + 1)), (Go.bits .andNot .u32 x10_3 (Go.bits .or .u32 x7_2 x9_2)), (by first | rfl | (simp; done) | (simp [*]; done)), (by first | rfl | (simp; done) | (simp [*]; done)), (by first | rfl | (simp; done) | (simp [*]; done)), H', ⟨by have := HK1.out; have := HK2.out; have := HK3.out; omega⟩, ⟨by (try simp only [hl5_1]); (try simp only [hl5_2]); (try simp only [hl5_3]); (with_reducible repeat (first | apply Kd.R_alloc | apply Kd.R_drewN | apply Kd.R_drew)); exact HO_5.out⟩, ⟨by (try simp only [hl5_1]); (try simp only [hl5_2]); (try simp only [hl5_3]); (with_reducible repeat (first | refine blk_drewN ?_ _ | refine blk_drew ?_ | refine blk_alloc ?_ _)); exact BK434.out⟩, ⟨by repeat (first | (with_reducible first | exact HB.out | apply below_alloc | apply pw_below_drewN | apply below_drew1 | refine below_set ?_ GE434.out) | exact HB.out)⟩⟩
       ·
        rw [if_neg c20] at H
        exact absurd H (by simp)
   ·
    rw [if_neg c6] at H
    exact absurd H (by simp)
  ·
   rw [if_neg c5] at H
   exact absurd H (by simp)
 ·
  replace c4 := Bool.eq_false_iff.mpr c4
  subst c4
  have H1 : (some ([] : List Int)) = some r := by rw [if_neg (show ¬ (false = true) by decide)] at H; exact H
  clear H
  have H := H1
  clear H1
  obtain rfl := Option.some.inj H
  go_enter Try.func90, Try.ntmps90
  go_wp2_with (first | ((with_reducible refine gate_dst (N := 2) rfl ?_); refine box_event ?hg (N := 2) ?hd (cs := #[.slice A0_0 l0_0.length c0_0, .slice A0_1 l0_1.length c0_1]) (t := 27) ?hr ?_; (case hd => rfl); (case hg => rfl); (case hr => first | (go_simp; done) | (go_simp; rfl)); intro gb434 hg w34 hbox hb; have n0_ := Aside0.mk (below_step (by repeat (first | (with_reducible first | exact HB.out | apply below_alloc | apply pw_below_drewN | apply below_drew1) | exact HB.out)) hb); have n1_ := Aside0.mk (hbox); have n2_ := Aside0.mk ((by rw [hg]; exact (below_size (by repeat (first | (with_reducible first | exact HB.out | apply below_alloc | apply pw_below_drewN | apply below_drew1) | exact HB.out))) : w.heap.size ≤ gb434)); have n3_ := Aside0.mk ((by rw [hg]; exact (below_size (by repeat (first | (with_reducible first | exact HB.out | apply below_alloc | apply pw_below_drewN | apply below_drew1) | exact HB.out))) : w.heap.size ≤ gb434)); clear HB; have HB := n0_; have BK434 := n1_; have GW434 := n2_; have GE434 := n3_; clear n0_ n1_ n2_ n3_; clear hb hbox hg; have hcz35_0 : w34.cell? ⟨gb434, 0, none⟩ = some (.slice A0_0 l0_0.length c0_0) := (blk_cell BK434.out 0).trans rfl; have hcz35_1 : w34.cell? ⟨gb434, 1, none⟩ = some (.slice A0_1 l0_1.length c0_1) := (blk_cell BK434.out 1).trans rfl; have hfz35_0 := blk_frozen BK434.out 0; have hfz35_1 := blk_frozen BK434.out 1) | (go_at_call 124; (with_reducible refine (graph_node.calls _ _ l0_0 _ _ l0_1 a1 false _ ?side1 ?side2 ?side3 ?side4 A3.out).mono ?_); (case side1 => repeat (first | exact (Kd.C_below HR0_0.out HB.out) | (with_reducible refine Kd.C_alloc ?_ _) | (with_reducible refine Kd.C_drewN ?_ _) | (with_reducible refine Kd.C_drew ?_))); (case side2 => exact HC0_0.out); (case side3 => repeat (first | exact (Kd.C_below HR0_1.out HB.out) | (with_reducible refine Kd.C_alloc ?_ _) | (with_reducible refine Kd.C_drewN ?_ _) | (with_reducible refine Kd.C_drew ?_))); (case side4 => exact HC0_1.out); rintro e w36 ⟨rfl, hb⟩; have n0_ := Aside0.mk (blk_below (g := gb434) (o := .cells #[.slice A0_0 l0_0.length c0_0, .slice A0_1 l0_1.length c0_1] 27 (0, 0)) (by (with_reducible repeat (first | refine blk_drewN ?_ _ | refine blk_drew ?_ | refine blk_alloc ?_ _)); exact BK434.out) hb); have n1_ := Aside0.mk (below_step (by repeat (first | (with_reducible first | exact HB.out | apply below_alloc | apply pw_below_drewN | apply below_drew1 | refine below_set ?_ GE434.out) | exact HB.out)) hb); clear BK434; clear HB; have BK434 := n0_; have HB := n1_; clear n0_ n1_; (try clear hb); (try clear hb2); (try clear hk); (try clear hi)))
  repeat (go_quiet (first | ((with_reducible refine gate_dst (N := 2) rfl ?_); refine box_event ?hg (N := 2) ?hd (cs := #[.slice A0_0 l0_0.length c0_0, .slice A0_1 l0_1.length c0_1]) (t := 27) ?hr ?_; (case hd => rfl); (case hg => rfl); (case hr => first | (go_simp; done) | (go_simp; rfl)); intro gb434 hg w34 hbox hb; have n0_ := Aside0.mk (below_step (by repeat (first | (with_reducible first | exact HB.out | apply below_alloc | apply pw_below_drewN | apply below_drew1) | exact HB.out)) hb); have n1_ := Aside0.mk (hbox); have n2_ := Aside0.mk ((by rw [hg]; exact (below_size (by repeat (first | (with_reducible first | exact HB.out | apply below_alloc | apply pw_below_drewN | apply below_drew1) | exact HB.out))) : w.heap.size ≤ gb434)); have n3_ := Aside0.mk ((by rw [hg]; exact (below_size (by repeat (first | (with_reducible first | exact HB.out | apply below_alloc | apply pw_below_drewN | apply below_drew1) | exact HB.out))) : w.heap.size ≤ gb434)); clear HB; have HB := n0_; have BK434 := n1_; have GW434 := n2_; have GE434 := n3_; clear n0_ n1_ n2_ n3_; clear hb hbox hg; have hcz35_0 : w34.cell? ⟨gb434, 0, none⟩ = some (.slice A0_0 l0_0.length c0_0) := (blk_cell BK434.out 0).trans rfl; have hcz35_1 : w34.cell? ⟨gb434, 1, none⟩ = some (.slice A0_1 l0_1.length c0_1) := (blk_cell BK434.out 1).trans rfl; have hfz35_0 := blk_frozen BK434.out 0; have hfz35_1 := blk_frozen BK434.out 1) | (go_at_call 124; (with_reducible refine (graph_node.calls _ _ l0_0 _ _ l0_1 a1 false _ ?side1 ?side2 ?side3 ?side4 A3.out).mono ?_); (case side1 => repeat (first | exact (Kd.C_below HR0_0.out HB.out) | (with_reducible refine Kd.C_alloc ?_ _) | (with_reducible refine Kd.C_drewN ?_ _) | (with_reducible refine Kd.C_drew ?_))); (case side2 => exact HC0_0.out); (case side3 => repeat (first | exact (Kd.C_below HR0_1.out HB.out) | (with_reducible refine Kd.C_alloc ?_ _) | (with_reducible refine Kd.C_drewN ?_ _) | (with_reducible refine Kd.C_drew ?_))); (case side4 => exact HC0_1.out); rintro e w36 ⟨rfl, hb⟩; have n0_ := Aside0.mk (blk_below (g := gb434) (o := .cells #[.slice A0_0 l0_0.length c0_0, .slice A0_1 l0_1.length c0_1] 27 (0, 0)) (by (with_reducible repeat (first | refine blk_drewN ?_ _ | refine blk_drew ?_ | refine blk_alloc ?_ _)); exact BK434.out) hb); have n1_ := Aside0.mk (below_step (by repeat (first | (with_reducible first | exact HB.out | apply below_alloc | apply pw_below_drewN | apply below_drew1 | refine below_set ?_ GE434.out) | exact HB.out)) hb); clear BK434; clear HB; have BK434 := n0_; have HB := n1_; clear n0_ n1_; (try clear hb); (try clear hb2); (try clear hk); (try clear hi))); try go_wp2_with (first | ((with_reducible refine gate_dst (N := 2) rfl ?_); refine box_event ?hg (N := 2) ?hd (cs := #[.slice A0_0 l0_0.length c0_0, .slice A0_1 l0_1.length c0_1]) (t := 27) ?hr ?_; (case hd => rfl); (case hg => rfl); (case hr => first | (go_simp; done) | (go_simp; rfl)); intro gb434 hg w34 hbox hb; have n0_ := Aside0.mk (below_step (by repeat (first | (with_reducible first | exact HB.out | apply below_alloc | apply pw_below_drewN | apply below_drew1) | exact HB.out)) hb); have n1_ := Aside0.mk (hbox); have n2_ := Aside0.mk ((by rw [hg]; exact (below_size (by repeat (first | (with_reducible first | exact HB.out | apply below_alloc | apply pw_below_drewN | apply below_drew1) | exact HB.out))) : w.heap.size ≤ gb434)); have n3_ := Aside0.mk ((by rw [hg]; exact (below_size (by repeat (first | (with_reducible first | exact HB.out | apply below_alloc | apply pw_below_drewN | apply below_drew1) | exact HB.out))) : w.heap.size ≤ gb434)); clear HB; have HB := n0_; have BK434 := n1_; have GW434 := n2_; have GE434 := n3_; clear n0_ n1_ n2_ n3_; clear hb hbox hg; have hcz35_0 : w34.cell? ⟨gb434, 0, none⟩ = some (.slice A0_0 l0_0.length c0_0) := (blk_cell BK434.out 0).trans rfl; have hcz35_1 : w34.cell? ⟨gb434, 1, none⟩ = some (.slice A0_1 l0_1.length c0_1) := (blk_cell BK434.out 1).trans rfl; have hfz35_0 := blk_frozen BK434.out 0; have hfz35_1 := blk_frozen BK434.out 1) | (go_at_call 124; (with_reducible refine (graph_node.calls _ _ l0_0 _ _ l0_1 a1 false _ ?side1 ?side2 ?side3 ?side4 A3.out).mono ?_); (case side1 => repeat (first | exact (Kd.C_below HR0_0.out HB.out) | (with_reducible refine Kd.C_alloc ?_ _) | (with_reducible refine Kd.C_drewN ?_ _) | (with_reducible refine Kd.C_drew ?_))); (case side2 => exact HC0_0.out); (case side3 => repeat (first | exact (Kd.C_below HR0_1.out HB.out) | (with_reducible refine Kd.C_alloc ?_ _) | (with_reducible refine Kd.C_drewN ?_ _) | (with_reducible refine Kd.C_drew ?_))); (case side4 => exact HC0_1.out); rintro e w36 ⟨rfl, hb⟩; have n0_ := Aside0.mk (blk_below (g := gb434) (o := .cells #[.slice A0_0 l0_0.length c0_0, .slice A0_1 l0_1.length c0_1] 27 (0, 0)) (by (with_reducible repeat (first | refine blk_drewN ?_ _ | refine blk_drew ?_ | refine blk_alloc ?_ _)); exact BK434.out) hb); have n1_ := Aside0.mk (below_step (by repeat (first | (with_reducible first | exact HB.out | apply below_alloc | apply pw_below_drewN | apply below_drew1 | refine below_set ?_ GE434.out) | exact HB.out)) hb); clear BK434; clear HB; have BK434 := n0_; have HB := n1_; clear n0_ n1_; (try clear hb); (try clear hb2); (try clear hk); (try clear hi))))
  go_ret
  exact ⟨_, by first | rfl | (simp [errW_none, errW_some] <;> rfl) | (simp [*, errW_none, errW_some] <;> rfl), by first | exact Kd.R_nil _ _ _ _ _ | exact Kd.N_nil _ _ _ _ _ | exact Kd.V_nil _ _ _ _ _ | exact Kd.Q_nil _ _ _ _ _ | exact Kd.S_nil _ _ _ _ _, by repeat (first | (with_reducible first | exact HB.out | apply below_alloc | apply pw_below_drewN | apply below_drew1 | refine below_set ?_ GE434.out) | exact HB.out)⟩
end Go.Proofs.YthapikakneikbaaG
namespace Go.Proofs.YthapikakneikbaaG
open Go.RowKit Go.Proofs.YthapikakneikbaaW.PrintWords Go.Proofs.YthapikakneikbaaW.PrintLast Go.Proofs.YthapikakneikbaaW.PrintMore
attribute [local go_sem] max2_int min2_int max_two min_two max_three min_three max_four min_four   -- for this text's walks alone
set_option linter.unusedVariables false
set_option linter.unusedSimpArgs false
def selfstabref01_In.f (a0 : Int) (a1 : Int) (a2 : Int) : Option (Bool) := if a0 ≥ a1 then (some (decide (a0 ≤ a2))) else (some false)
set_option maxHeartbeats 8000000 in
set_option maxRecDepth 100000 in
theorem selfstabref01_In.calls (a0 : Int) (a1 : Int) (a2 : Int) (r : Bool) (w : World) (h : selfstabref01_In.f a0 a1 a2 = some r) :
  Calls Try.prog 116 #[.int .i64 a0, .int .i64 a1, .int .i64 a2] w fun e w' => e = .returned (.bool r) ∧ Drawn0 w w' := by
 have H : (if a0 ≥ a1 then (some (decide (a0 ≤ a2))) else (some false)) = some r := h
 clear h
 by_cases c4 : a0 ≥ a1
 ·
  rw [if_pos c4] at H
  have c4b0 : decide (a1 ≤ a0) = true := decide_eq_true c4
  clear c4
  obtain rfl := Option.some.inj H
  go_enter Try.func116, Try.ntmps116
  go_wp2
  go_ret
  exact ⟨by first | rfl | (simp; done) | (simp [*]; done), by repeat (first | exact Drawn0.refl _ | apply Drawn0.step)⟩
 ·
  rw [if_neg c4] at H
  have c4b0 : decide (a1 ≤ a0) = false := decide_eq_false c4
  clear c4
  obtain rfl := Option.some.inj H
  go_enter Try.func116, Try.ntmps116
  go_wp2
  go_ret
  exact ⟨by first | rfl | (simp; done) | (simp [*]; done), by repeat (first | exact Drawn0.refl _ | apply Drawn0.step)⟩
end Go.Proofs.YthapikakneikbaaG
/-
  The ports of a graph that is being made: a row of rows of links, all in memory of the call's own.
-/
namespace Go.Proofs.Ythapikakneikbaa
open Go.RowKit
theorem infoLink : (Try.prog.info? 60).map (fun i => (i.zero, i.size, i.bytes)) = some (some (.agg #[.int .i64 0, .int .i64 0]), 2, 16) := by kernel_rfl
/-! ### blocks -/
theorem blk_lt {w : World} {g : Nat} {o : Obj} (h : w.heap[g]? = some o) : g < w.heap.size := (Array.getElem?_eq_some_iff.1 h).1
theorem blk_cell {w : World} {g : Nat} {cs : Array Value} {t : TypeId} {j : Nat} {v : Value} (h : w.heap[g]? = some (.cells cs t (0, 0))) (hj : cs[j]? = some v) : w.cell? ⟨g, j, none⟩ = some v := by
  unfold World.cell?
  rw [h]
  simpa using hj
theorem blk_free {w : World} {g : Nat} {cs : Array Value} {t : TypeId} (j : Nat) (h : w.heap[g]? = some (.cells cs t (0, 0))) : w.frozen? ⟨g, j, none⟩ = false := by
  simp [World.frozen?, h]
theorem blk_set {w : World} {g : Nat} {cs : Array Value} {t : TypeId} {fr : Nat × Nat} (j : Nat) (u : Value) (h : w.heap[g]? = some (.cells cs t fr)) (hj : j < cs.size) : (w.setCell ⟨g, j, none⟩ u).heap[g]? = some (.cells (cs.setIfInBounds j u) t fr) := by
  simp only [World.setCell, Array.getElem?_modify, if_pos, h, Option.map_some]
  simp [Array.setIfInBounds, hj]
theorem cell_at_new {w : World} {cs : Array Value} {t : TypeId} {k j : Nat} {v : Value} (hk : k = w.heap.size) (h : cs[j]? = some v) : (w.alloc (.cells cs t)).cell? ⟨k, j, none⟩ = some v := hk ▸ cell_new _ _ _ _ _ h
theorem blk_keep {w w1 : World} {k : Nat} {o : Obj} {row : Option Nat} (h : w.heap[k]? = some o) (hg : w.grownBy w1 row) (hne : some k ≠ row) : w1.heap[k]? = some o := (hg.block k (blk_lt h) hne).trans h
theorem blk_below {w w1 : World} {k : Nat} {o : Obj} (h : w.heap[k]? = some o) (hb : Below w.heap.size w w1) : w1.heap[k]? = some o := (hb.block k (blk_lt h)).trans h
theorem blk_alloc {w : World} {k : Nat} {o : Obj} (h : w.heap[k]? = some o) (o' : Obj) : (w.alloc o').heap[k]? = some o := (Below.heap_alloc _ _ _ (blk_lt h)).trans h
theorem blk_far {w : World} {k : Nat} {o : Obj} {p : Addr} {u : Value} (h : w.heap[k]? = some o) (hne : k ≠ p.block) : (w.setCell p u).heap[k]? = some o := (Below.heap_setCell _ _ _ _ hne).trans h
theorem blk_new {w : World} {o : Obj} {k : Nat} (hk : k = w.heap.size) : (w.alloc o).heap[k]? = some o := hk ▸ heap_alloc_new w o
/-- A block of another type is not an owned row's. -/
theorem own_typed0 {w : World} {base : Nat} {e : TypeId} {size n : Nat} {v : Value} {xs : List Value} (h : w.ownsRow base e size v n xs) (k : Nat) (hk : v.ownBlock = some k) : base ≤ k ∧ ∃ cells, w.heap[k]? = some (.cells cells e (0, 0)) := by
  rcases h.2 with ⟨rfl, _⟩ | ⟨g, cap, cur, rfl, hg, hh, r⟩
  · simp [Value.ownBlock] at hk
  · have : g = k := by simpa [Value.ownBlock] using hk
    subst this
    exact ⟨hg, cur, hh⟩
theorem own_ne {w : World} {base : Nat} {e t : TypeId} {size n k : Nat} {v : Value} {xs : List Value} {cs : Array Value} {fr : Nat × Nat} (h : w.ownsRow base e size v n xs) (hb : w.heap[k]? = some (.cells cs t fr)) (hne : t ≠ e) : some k ≠ v.ownBlock := fun e' => by
  obtain ⟨_, cells, hc⟩ := own_typed0 h k e'.symm
  rw [hb] at hc
  injection hc with hc
  injection hc with _ hc
  exact hne hc
theorem own_keep {w w1 : World} {base : Nat} {e : TypeId} {size n : Nat} {v : Value} {xs : List Value} {row : Option Nat} (h : w.ownsRow base e size v n xs) (hg : w.grownBy w1 row) (hne : ∀ k, row = some k → some k ≠ v.ownBlock) : w1.ownsRow base e size v n xs :=
  h.kept hg (by
    cases hv : v.ownBlock with
    | none => exact .inl rfl
    | some k => exact .inr fun e => hne k e.symm hv.symm)
theorem grown_set (w : World) (p : Addr) (u : Value) : w.grownBy (w.setCell p u) (some p.block) := ⟨rfl, rfl, rfl, by simp [World.setCell], fun k _ hne => Below.heap_setCell _ _ _ _ (fun e => hne (by rw [e]))⟩
theorem infoInt : (Try.prog.info? 3).map (fun i => (i.zero, i.size, i.bytes)) = some (some (.int .i64 0), 1, 8) := by kernel_rfl
def icells (xs : List Int) : List Value := xs.map (Value.int .i64)
/-- A row of numbers of the call's own reads as that list. -/
theorem ints_reads {w : World} {base : Nat} {v : Value} {xs : List Int} (h : w.ownsRow base 3 1 v xs.length (icells xs)) : (Kd.int .i64).SL w v xs := by
  rcases h.2 with ⟨rfl, h0⟩ | ⟨g, cap, cur, rfl, _, hb, hc, hm, hs, ht⟩
  · have : xs = [] := List.eq_nil_of_length_eq_zero h0
    subst this
    exact ⟨none, 0, rfl, Nat.le_refl _, Kd.C_nil _ _ _⟩
  · refine ⟨_, cap, rfl, hc, by unfold maxLen at hm; omega, fun _ => ⟨_, rfl, fun j l hj => ⟨[.int .i64 l], rfl, fun i u hu => ?_⟩⟩⟩
    have hcell : ∀ q v, (icells xs)[q]? = some v → w.cell? ((⟨g, 0, none⟩ : Addr).add q) = some v := fun q v hq => h.cells (g := g) rfl q v hq
    match i, hu with
    | 0, hu => have : u = .int .i64 l := by simpa using hu.symm
               subst this
               exact hcell _ _ (by simpa [icells, Kd.int, Kd.scalar] using hj)
    | i + 1, hu => simp at hu
/-! ### rows of links -/
def lcells (ps : List Link) : List Value := ps.flatMap fun l => [.int .i64 l.to_, .int .i64 l.wt]
theorem lcells_length (ps : List Link) : (lcells ps).length = ps.length * 2 := by
  induction ps with
  | nil => rfl
  | cons p r ih => simp only [lcells, List.flatMap_cons, List.length_append, List.length_cons, List.length_nil] at *; omega
theorem lcells_append (a b : List Link) : lcells (a ++ b) = lcells a ++ lcells b := by simp [lcells]
theorem lcells_one (l : Link) : lcells [l] = [.int .i64 l.to_, .int .i64 l.wt] := rfl
theorem lcells_get {ps : List Link} {j : Nat} {l : Link} (h : ps[j]? = some l) : (lcells ps)[j * 2]? = some (.int .i64 l.to_) ∧ (lcells ps)[j * 2 + 1]? = some (.int .i64 l.wt) := by
  induction ps generalizing j with
  | nil => simp at h
  | cons p r ih =>
    cases j with
    | zero => have : p = l := by simpa using h
              subst this; exact ⟨rfl, rfl⟩
    | succ j =>
      have := ih (j := j) (by simpa using h)
      rw [show (j + 1) * 2 = j * 2 + 2 from by omega]
      exact this
theorem lcells_oneCell (ps : List Link) : ∀ u ∈ lcells ps, u.oneCell' = true := by
  intro u hu
  obtain ⟨l, _, hl⟩ := List.mem_flatMap.1 hu
  simp at hl
  rcases hl with rfl | rfl <;> rfl
/-- A row of links of the call's own reads as that list. -/
theorem row_reads {w : World} {base : Nat} {v : Value} {ps : List Link} (h : w.ownsRow base 60 2 v ps.length (lcells ps)) : kLink.SL w v ps := by
  rcases h.2 with ⟨rfl, h0⟩ | ⟨g, cap, cur, rfl, _, hb, hc, hm, hs, ht⟩
  · have : ps = [] := List.eq_nil_of_length_eq_zero h0
    subst this
    exact ⟨none, 0, rfl, Nat.le_refl _, Kd.C_nil _ _ _⟩
  · refine ⟨_, cap, rfl, hc, by unfold maxLen at hm; omega, fun _ => ⟨_, rfl, fun j l hj => ⟨[.int .i64 l.to_, .int .i64 l.wt], ⟨[.int .i64 l.to_], [.int .i64 l.wt], rfl, rfl, rfl⟩, fun i u hu => ?_⟩⟩⟩
    have hcell : ∀ q v, (lcells ps)[q]? = some v → w.cell? ((⟨g, 0, none⟩ : Addr).add q) = some v := fun q v hq => h.cells (g := g) rfl q v hq
    obtain ⟨h1, h2⟩ := lcells_get hj
    match i, hu with
    | 0, hu => have : u = .int .i64 l.to_ := by simpa using hu.symm
               subst this; exact hcell _ _ h1
    | 1, hu => have : u = .int .i64 l.wt := by simpa using hu.symm
               subst this; exact hcell _ _ h2
    | i + 2, hu => simp at hu
/-- Each row is the call's own; no two rows lie in one block. -/
structure Rows (w : World) (base : Nat) (vs : List Value) (rows : List (List Link)) : Prop where
  len : vs.length = rows.length
  own : ∀ (u : Nat) v ps, vs[u]? = some v → rows[u]? = some ps → w.ownsRow base 60 2 v ps.length (lcells ps)
  apart : ∀ (u u' : Nat) v v', vs[u]? = some v → vs[u']? = some v' → u ≠ u' → v.ownBlock = none ∨ v.ownBlock ≠ v'.ownBlock
  nil : ∀ (u : Nat) v ps, vs[u]? = some v → rows[u]? = some ps → ps.length = 0 → v = .slice none 0 0
theorem own_typed {w : World} {base : Nat} {e : TypeId} {size n : Nat} {v : Value} {xs : List Value} (h : w.ownsRow base e size v n xs) (k : Nat) (hk : v.ownBlock = some k) : base ≤ k ∧ ∃ cells, w.heap[k]? = some (.cells cells e (0, 0)) := by
  rcases h.2 with ⟨rfl, _⟩ | ⟨g, cap, cur, rfl, hg, hh, r⟩
  · simp [Value.ownBlock] at hk
  · have : g = k := by simpa [Value.ownBlock] using hk
    subst this
    exact ⟨hg, cur, hh⟩
theorem own_lt {w : World} {base : Nat} {e : TypeId} {size n : Nat} {v : Value} {xs : List Value} (h : w.ownsRow base e size v n xs) (k : Nat) (hk : v.ownBlock = some k) : k < w.heap.size := by
  obtain ⟨_, _, h⟩ := own_typed h k hk
  exact blk_lt h
/-- Another block than the rows' has been written. -/
theorem Rows.keep {w w1 : World} {base : Nat} {vs : List Value} {rows : List (List Link)} {row : Option Nat} (h : Rows w base vs rows) (hg : w.grownBy w1 row) (hn : ∀ v ∈ vs, v.ownBlock = none ∨ v.ownBlock ≠ row) : Rows w1 base vs rows :=
  ⟨h.len, fun u v ps h1 h2 => (h.own u v ps h1 h2).kept hg (hn v (List.mem_of_getElem? h1)), h.apart, h.nil⟩
theorem Rows.alloc {w : World} {base : Nat} {vs : List Value} {rows : List (List Link)} (h : Rows w base vs rows) (o : Obj) : Rows (w.alloc o) base vs rows := h.keep (World.grownBy_alloc w o none) (fun v _ => by cases v.ownBlock <;> simp)
theorem Rows.drew {w : World} {base : Nat} {vs : List Value} {rows : List (List Link)} (h : Rows w base vs rows) : Rows w.drew base vs rows := ⟨h.len, h.own, h.apart, h.nil⟩
/-- One row has grown, in its own block or into a new one. -/
theorem Rows.upd {w w1 : World} {base : Nat} {vs : List Value} {rows : List (List Link)} {a : Nat} {va v' : Value} {r' : List Link} (h : Rows w base vs rows) (ha : vs[a]? = some va) (hg : w.grownBy w1 va.ownBlock)
    (ho : w1.ownsRow base 60 2 v' r'.length (lcells r')) (hne : r'.length ≠ 0) (hat : v'.ownBlock = none ∨ v'.ownBlock = va.ownBlock ∨ ∃ g, v'.ownBlock = some g ∧ w.heap.size ≤ g) : Rows w1 base (vs.set a v') (rows.set a r') := by
  have hal : a < vs.length := (List.getElem?_eq_some_iff.1 ha).1
  have other : ∀ u v, vs[u]? = some v → u ≠ a → v.ownBlock = none ∨ (v.ownBlock ≠ va.ownBlock ∧ v.ownBlock ≠ v'.ownBlock) := fun u v hu hne => by
    rcases h.apart u a v va hu ha hne with h1 | h1
    · exact .inl h1
    · cases hv : v.ownBlock with
      | none => exact .inl rfl
      | some k =>
        refine .inr ⟨hv ▸ h1, ?_⟩
        rcases hat with h2 | h2 | ⟨g, h2, h3⟩
        · rw [h2]; simp
        · rw [h2]; exact hv ▸ h1
        · rw [h2]
          intro e
          injection e with e
          have hul : u < rows.length := by rw [← h.len]; exact (List.getElem?_eq_some_iff.1 hu).1
          have := own_lt (h.own u v _ hu (List.getElem?_eq_getElem hul)) k hv
          omega
  refine ⟨by simp [h.len], ?_, ?_, ?_⟩
  · intro u v ps h1 h2
    rw [List.getElem?_set] at h1 h2
    by_cases hu : a = u
    · subst hu
      rw [if_pos rfl, if_pos hal] at h1
      rw [if_pos rfl, if_pos (by rw [← h.len]; exact hal)] at h2
      cases h1; cases h2
      exact ho
    · rw [if_neg hu] at h1 h2
      refine (h.own u v ps h1 h2).kept hg ?_
      rcases other u v h1 (Ne.symm hu) with h3 | h3
      · exact .inl h3
      · exact .inr h3.1
  · intro u u' v v2 h1 h2 hne
    rw [List.getElem?_set] at h1 h2
    by_cases hu : a = u
    · subst hu
      rw [if_pos rfl, if_pos hal] at h1
      rw [if_neg hne] at h2
      cases h1
      rcases other u' v2 h2 (Ne.symm hne) with h3 | h3
      · cases hv : v'.ownBlock with
        | none => exact .inl rfl
        | some k => exact .inr (by rw [h3]; simp)
      · exact .inr (Ne.symm h3.2)
    · rw [if_neg hu] at h1
      by_cases hu' : a = u'
      · subst hu'
        rw [if_pos rfl, if_pos hal] at h2
        cases h2
        rcases other u v h1 hne with h3 | h3
        · exact .inl h3
        · exact .inr h3.2
      · rw [if_neg hu'] at h2
        exact h.apart u u' v v2 h1 h2 hne
  · intro u v ps h1 h2 h0
    rw [List.getElem?_set] at h1 h2
    by_cases hu : a = u
    · subst hu
      rw [if_pos rfl, if_pos (by rw [← h.len]; exact hal)] at h2
      cases h2
      exact absurd h0 hne
    · rw [if_neg hu] at h1 h2
      exact h.nil u v ps h1 h2 h0
/-- The ports of a graph in the making: block P holds the rows' values. -/
structure PortsAt (w : World) (base P : Nat) (vs : List Value) (rows : List (List Link)) : Prop where
  blk : w.heap[P]? = some (.cells vs.toArray 52 (0, 0))
  rows : Rows w base vs rows
  hP : base ≤ P
theorem PortsAt.far {w : World} {base P : Nat} {vs : List Value} {rows : List (List Link)} (h : PortsAt w base P vs rows) : ∀ v ∈ vs, v.ownBlock ≠ some P := by
  intro v hv e
  obtain ⟨u, hu, rfl⟩ := List.mem_iff_getElem.1 hv
  obtain ⟨_, cells, hc⟩ := own_typed (h.rows.own u vs[u] _ (List.getElem?_eq_getElem hu) (List.getElem?_eq_getElem (by rw [← h.rows.len]; exact hu))) P e
  rw [h.blk] at hc
  injection hc with hc
  injection hc with _ hc
  exact absurd hc (by decide)
theorem PortsAt.alloc {w : World} {base P : Nat} {vs : List Value} {rows : List (List Link)} (h : PortsAt w base P vs rows) (o : Obj) : PortsAt (w.alloc o) base P vs rows :=
  ⟨(Below.heap_alloc w o _ (blk_lt h.blk)).trans h.blk, h.rows.alloc o, h.hP⟩
theorem PortsAt.below {w w1 : World} {base P : Nat} {vs : List Value} {rows : List (List Link)} (h : PortsAt w base P vs rows) (hb : Below w.heap.size w w1) : PortsAt w1 base P vs rows :=
  ⟨(hb.block P (blk_lt h.blk)).trans h.blk, h.rows.keep (row := none) ⟨hb.os, hb.tape, hb.output, hb.size, fun k hk _ => hb.block k hk⟩ (fun v _ => by cases v.ownBlock <;> simp), h.hP⟩
/-- A store of a row's new value into block P. -/
theorem PortsAt.store {w1 : World} {base P : Nat} {vs : List Value} {rows : List (List Link)} {a : Nat} {v' : Value} (hb : w1.heap[P]? = some (.cells vs.toArray 52 (0, 0))) (ha : a < vs.length) (hr : Rows w1 base (vs.set a v') rows) (hP : base ≤ P) : PortsAt (w1.setCell ⟨P, a, none⟩ v') base P (vs.set a v') rows := by
  have hb' := blk_set a v' hb (by simpa using ha)
  have hb2 : (w1.setCell ⟨P, a, none⟩ v').heap[P]? = some (.cells (vs.set a v').toArray 52 (0, 0)) := by rw [hb']; simp
  refine ⟨hb2, hr.keep (row := some P) ⟨rfl, rfl, rfl, by simp [World.setCell], fun k hk hne => Below.heap_setCell _ _ _ _ (fun e => hne (by rw [e]))⟩ ?_, hP⟩
  intro v hv
  right
  intro e
  obtain ⟨u, hu, rfl⟩ := List.mem_iff_getElem.1 hv
  obtain ⟨_, cells, hc⟩ := own_typed (hr.own u _ _ (List.getElem?_eq_getElem hu) (List.getElem?_eq_getElem (by rw [← hr.len]; exact hu))) P e
  rw [hb] at hc
  injection hc with hc
  injection hc with _ hc
  exact absurd hc (by decide)
theorem PortsAt.reads {w : World} {base P : Nat} {vs : List Value} {rows : List (List Link)} (h : PortsAt w base P vs rows) (hn : rows.length ≤ 1000) : kLink.slice.C w (some ⟨P, 0, none⟩) rows := by
  refine ⟨by omega, fun _ => ⟨_, rfl, fun j ps hj => ?_⟩⟩
  have hjl : j < vs.length := by rw [h.rows.len]; exact (List.getElem?_eq_some_iff.1 hj).1
  refine ⟨[vs[j]], ⟨vs[j], rfl, row_reads (h.rows.own j _ ps (List.getElem?_eq_getElem hjl) hj)⟩, fun i u hu => ?_⟩
  cases i with
  | succ i => simp at hu
  | zero =>
    have : u = vs[j] := by simpa using hu.symm
    subst this
    have e : (⟨P, 0, none⟩ : Addr).add (j * kLink.slice.sz + 0) = ⟨P, j, none⟩ := by
      show (⟨P, 0, none⟩ : Addr).add (j * 1 + 0) = _
      unfold Addr.add
      split <;> simp_all
    rw [e]
    exact blk_cell h.blk (by simp [List.getElem?_eq_getElem hjl])
/-! ### for the regions of open order -/
theorem cell_far {w : World} {p q : Addr} {u v : Value} (h : w.cell? q = some v) (hne : q.block ≠ p.block) : (w.setCell p u).cell? q = some v := by
  rw [← h]
  exact World.cell?_of_block (w := w) (Below.heap_setCell w p u _ hne)
theorem port_set {w : World} {P : Nat} {vs : List Value} {t : TypeId} {a : Nat} {v : Value} (h : w.heap[P]? = some (.cells vs.toArray t (0, 0))) (ha : a < vs.length) : (w.setCell ⟨P, a, none⟩ v).heap[P]? = some (.cells (vs.set a v).toArray t (0, 0)) := by
  rw [blk_set a v h (by simpa using ha)]
  simp
theorem port_cell {w : World} {P : Nat} {vs : List Value} {t : TypeId} {a : Nat} {v : Value} (h : w.heap[P]? = some (.cells vs.toArray t (0, 0))) (ha : vs[a]? = some v) : w.cell? ⟨P, a, none⟩ = some v := blk_cell h (by simpa using ha)
theorem Rows.store {w : World} {base P : Nat} {vs us : List Value} {rows : List (List Link)} {a : Nat} {u : Value} (h : Rows w base us rows) (hb : w.heap[P]? = some (.cells vs.toArray 52 (0, 0))) : Rows (w.setCell ⟨P, a, none⟩ u) base us rows := by
  refine h.keep (row := some P) ⟨rfl, rfl, rfl, by simp [World.setCell], fun k hk hne => Below.heap_setCell _ _ _ _ (fun e => hne (by rw [e]))⟩ fun v hv => .inr fun e => ?_
  obtain ⟨u, hu, rfl⟩ := List.mem_iff_getElem.1 hv
  obtain ⟨_, cells, hc⟩ := own_typed (h.own u _ _ (List.getElem?_eq_getElem hu) (List.getElem?_eq_getElem (by rw [← h.len]; exact hu))) P e
  rw [hb] at hc
  injection hc with hc
  injection hc with _ hc
  exact absurd hc (by decide)
/-- A new block of one link is a row of the call's own. -/
theorem own_fresh {w : World} {base k : Nat} {l : Link} (h : w.heap[k]? = some (.cells #[.int .i64 l.to_, .int .i64 l.wt] 60 (0, 0))) (hb : base ≤ k) : w.ownsRow base 60 2 (.slice (some ⟨k, 0, none⟩) 1 1) 1 (lcells [l]) :=
  ⟨rfl, .inr ⟨k, 1, _, rfl, hb, h, Nat.le_refl _, by decide, rfl, rfl⟩⟩
/-- append(v, vx...), both rows of the call's own, v not empty. -/
theorem step_append_row {P : Program} {ops : Array Oper} {o : Oper} {a : Act} {w : World} {K : Act → World → Prop} {Q : Exit → Act → World → Prop} {E : Prop} (hgd : o.guard = none) (s x : Operand) (t : TypeId)
    (ho : o.op = .call { callee := .builtin .append, args := #[s, x], argTypes := #[t, t] })
    (base : Nat) (e : TypeId) (i : TypeInfo) (z : Value) (size bytes : Nat) (ht : P.underlying t = some (.slice e)) (hi : P.info? e = some i) (hz : i.zero = some z)
    (hsize : i.size = size) (hby : i.bytes = bytes) (hzs : z.cells.size = size) (hsz : 0 < size)
    (v : Value) (n : Nat) (xs : List Value) (hs : a.eval s = v) (hown : w.ownsRow base e size v n xs) (hn : 0 < n)
    (vx : Value) (m : Nat) (ys : List Value) (hx : a.eval x = vx) (hox : w.ownsRow base e size vx m ys) (hxn : m = 0 → vx = .slice none 0 0) (h1 : ∀ u ∈ ys, u.oneCell' = true)
    (h63 : n + m ≤ maxLen) (hbytes : (n + m) * bytes ≤ 140737488355328) (hbase : base ≤ w.heap.size)
    (h : ∀ g cap w', w'.ownsRow base e size (.slice (some ⟨g, 0, none⟩) (n + m) cap) (n + m) (xs ++ ys) → w.grownBy w' v.ownBlock → (v.ownBlock = some g ∨ g = w.heap.size) → g < w'.heap.size → K (a.put o.dst (.slice (some ⟨g, 0, none⟩) (n + m) cap)) w') :
    if Region.wanted o (yielded ops a.tmps) = true then Oper.wp P o a w K Q else E := by
  rcases hox.2 with ⟨rfl, rfl⟩ | ⟨gx, capx, cur, rfl, _, hgx, hmx, _, _, _⟩
  · have hys : ys = [] := List.eq_nil_of_length_eq_zero (by simpa using hox.1)
    subst hys
    obtain ⟨g, cap, rfl, _, _⟩ := hown.form hn
    have hw : Region.wanted o (yielded ops a.tmps) = true := by simp [Region.wanted, hgd]
    rw [if_pos hw]
    have hrun : (Builtin.append_ #[t, t] o.type #[.slice (some ⟨g, 0, none⟩) n cap, .slice none 0 0]).run P w = .ok (.slice (some ⟨g, 0, none⟩) n cap) w := by
      obtain ⟨_, hcap⟩ : True ∧ n ≤ cap := by
        rcases hown.2 with ⟨h0, _⟩ | ⟨_, cap', _, hv, _, _, h3, _⟩
        · simp at h0
        · exact ⟨trivial, by simp at hv; omega⟩
      simp [Builtin.append_, run_underlying ht, sizeOf, typeInfo, hi, Builtin.lenOf, Builtin.firstCells, loadCells, hcap, storeCells]
    unfold Oper.wp execOp
    simp only [ho, resolve, invoke, builtin, Sem.run_bind, Sem.run_pure, Result.andThen_ok, List.map_toArray, List.map_cons, List.map_nil, hs, hx, hrun]
    have h0 := h g cap w (by simpa using hown) (World.grownBy.refl w _) (.inl rfl) (own_lt hown g rfl)
    rw [Nat.add_zero] at h0
    exact h0
  · by_cases hm : m = 0
    · exact absurd (hxn hm) (by simp)
    · exact step_append_lies w hgd s x t ho base e i z size bytes ht hi hz hsize hby hzs hsz v n xs hs hown ⟨gx, 0, none⟩ m capx ys hx hox.1 (fun j u hj => hox.cells (g := gx) rfl j u hj) h1 (by omega) h63 hbytes hbase w.heap.size rfl h
/-- Blocks of other kinds than links' rows and ports stay as they are. -/
def Spared (w w' : World) : Prop := ∀ (I : Nat) (cs : Array Value) (T : TypeId), w.heap[I]? = some (.cells cs T (0, 0)) → T ≠ 60 → T ≠ 52 → w'.heap[I]? = some (.cells cs T (0, 0))
theorem Spared.refl (w : World) : Spared w w := fun _ _ _ h _ _ => h
theorem Spared.trans {a b c : World} (h : Spared a b) (k : Spared b c) : Spared a c := fun I cs T h1 h2 h3 => k I cs T (h I cs T h1 h2 h3) h2 h3
theorem Spared.below {w w1 w2 : World} (h : Spared w w1) (hb : Below w1.heap.size w1 w2) : Spared w w2 := fun I cs T h1 h2 h3 => (hb.block I (blk_lt (h I cs T h1 h2 h3))).trans (h I cs T h1 h2 h3)
theorem Spared.alloc {w w1 : World} (h : Spared w w1) (o : Obj) : Spared w (w1.alloc o) := h.below ((Below.refl _ _).alloc (Nat.le_refl _) o)
theorem Spared.drew {w w1 : World} (h : Spared w w1) : Spared w w1.drew := fun I cs T h1 h2 h3 => h I cs T h1 h2 h3
theorem Spared.grown {w w1 w2 : World} {row : Option Nat} (h : Spared w w1) (hg : w1.grownBy w2 row) (hr : ∀ k, row = some k → ∃ cells, w1.heap[k]? = some (.cells cells 60 (0, 0))) : Spared w w2 := fun I cs T h1 h2 h3 => by
  have h4 := h I cs T h1 h2 h3
  refine (hg.block I (blk_lt h4) fun e => ?_).trans h4
  obtain ⟨cells, hc⟩ := hr I e.symm
  rw [h4] at hc
  injection hc with hc
  injection hc with _ hc
  exact h2 hc
theorem Spared.set {w w1 : World} {P a : Nat} {cells : Array Value} {u : Value} (h : Spared w w1) (hP : w1.heap[P]? = some (.cells cells 52 (0, 0))) : Spared w (w1.setCell ⟨P, a, none⟩ u) := fun I cs T h1 h2 h3 => by
  have h4 := h I cs T h1 h2 h3
  refine (Below.heap_setCell _ _ _ _ fun e => ?_).trans h4
  have e' : I = P := e
  rw [e', hP] at h4
  injection h4 with h4
  injection h4 with _ h4
  exact h3 h4.symm
end Go.Proofs.Ythapikakneikbaa
/-
  selfstabworld: Within, at, linked.
-/
namespace Go.Proofs.Ythapikakneikbaa
open Go.RowKit
/-- v modulo m, from 0 on (0 if m is below 1). -/
def within (v m : Int) : Int := if m < 1 then 0 else if v.tmod m < 0 then v.tmod m + m else v.tmod m
theorem within_bd {v m : Int} (hm : 1 ≤ m) : 0 ≤ within v m ∧ within v m < m := by
  unfold within
  rw [if_neg (by omega)]
  have h1 := Int.tmod_lt_of_pos v (show 0 < m by omega)
  have h2 : -m < v.tmod m := by
    have := Int.tmod_lt_of_pos (-v) (show 0 < m by omega)
    rw [Int.neg_tmod] at this
    omega
  split <;> omega
theorem within_calls (w : World) (v m : Int) (hm : m ≤ 100000) : Calls Try.prog 70 #[.int .i64 v, .int .i64 m] w fun e w' => e = .returned (.int .i64 (within v m)) ∧ w = w' := by
  by_cases h1 : m < 1
  · have HE : Hid (within v m = 0) := by unfold Hid within; rw [if_pos h1]
    go_enter Try.func70, Try.ntmps70
    go_wp2_with fail
    go_ret
    exact ⟨by rw [HE.out]; rfl, rfl⟩
  · have hb := within_bd (v := v) (m := m) (by omega)
    have h0 : (m == 0) = false := by rw [beq_eq_false_iff_ne]; omega
    have hl := Int.tmod_lt_of_pos v (show 0 < m by omega)
    by_cases h2 : v.tmod m < 0
    · have HE : Hid (within v m = v.tmod m + m) := by unfold Hid within; rw [if_neg h1, if_pos h2]
      rw [HE.out] at hb
      go_enter Try.func70, Try.ntmps70
      go_wp2_with fail
      go_ret
      exact ⟨by rw [HE.out]; rfl, rfl⟩
    · have HE : Hid (within v m = v.tmod m) := by unfold Hid within; rw [if_neg h1, if_neg h2]
      go_enter Try.func70, Try.ntmps70
      go_wp2_with fail
      go_ret
      exact ⟨by rw [HE.out]; rfl, rfl⟩
/-- An element of a list, or 0; i from 0 on. -/
def at0 (l : List Int) (i : Int) : Int := l.getD i.toNat 0
theorem at_calls (w : World) (A : Option Addr) (c : Nat) (l : List Int) (hl : (Kd.int .i64).C w A l) (i : Int) (h0 : 0 ≤ i) : Calls Try.prog 71 #[.slice A l.length c, .int .i64 i] w fun e w' => e = .returned (.int .i64 (at0 l i)) ∧ w = w' := by
  obtain ⟨i, rfl⟩ := Int.eq_ofNat_of_zero_le h0
  have hm := Kd.C_max hl
  by_cases h1 : i < l.length
  · obtain ⟨ad, hA, hc⟩ := Kd.at_int hl i h1
    cases hA
    have HE : Hid (at0 l (i : Int) = l[i]) := by unfold Hid at0; simp [List.getD_eq_getElem?_getD, h1]
    generalize l[i] = y at hc HE
    clear hl
    go_enter Try.func71, Try.ntmps71
    go_wp2_with fail
    go_ret
    exact ⟨by rw [HE.out]; rfl, rfl⟩
  · have HE : Hid (at0 l (i : Int) = 0) := by unfold Hid at0; simp [List.getD_eq_getElem?_getD, h1]
    clear hl
    go_enter Try.func71, Try.ntmps71
    go_wp2_with fail
    go_ret
    exact ⟨by rw [HE.out]; rfl, rfl⟩
def linkedB (rows : List (List Link)) (a : Nat) (b : Int) : Bool := (rows.getD a []).any fun l => l.to_ == b
set_option maxRecDepth 100000 in
theorem linked_calls (w : World) (v0 : Value) (A1 : Option Addr) (c1 : Nat) (rows : List (List Link)) (hr : kLink.slice.C w A1 rows) (a : Nat) (ha : a < rows.length) (b : Int) :
    Calls Try.prog 132 #[.agg #[v0, .slice A1 rows.length c1], .int .i64 a, .int .i64 b] w fun e w' => e = .returned (.bool (linkedB rows a b)) ∧ Below w.heap.size w w' := by
  have hb0 := (Below.refl w.heap.size w).alloc (Nat.le_refl _) (.cells #[v0, .slice A1 rows.length c1] 27)
  obtain ⟨ad, A4, c4, hA, hcell, hl4, hC4⟩ := Kd.at_slice (Kd.C_below hr hb0) a ha
  cases hA
  have HP : Hid (rows.getD a [] = rows[a]) := by unfold Hid; simp [List.getD_eq_getElem?_getD, ha]
  generalize rows[a] = ps at hcell hl4 hC4 HP
  have hpm := Kd.C_max hC4
  have hrm := Kd.C_max hr
  have HC4 := Lib.hid hC4
  have HB0 := Lib.hid hb0
  clear hr hC4 hb0
  go_enter Try.func132, Try.ntmps132
  go_wp2_with fail
  go_loop [7] (fun i => ∃ j : Nat, j ≤ ps.length ∧ i = .int .i64 j ∧ (ps.take j).any (fun l => l.to_ == b) = false) (fun i => ps.length - (intOf i).toNat)
  case atStart => exact ⟨0, Nat.zero_le _, rfl, by simp⟩
  case round =>
    obtain ⟨j, hj, rfl, hn⟩ := hrel
    have HN := Lib.hid hn
    clear hn
    by_cases hlt : j < ps.length
    · obtain ⟨ad2, hA2, hx, hy⟩ := at_link HC4.out j hlt
      cases hA2
      have HX : Hid (ps.take (j + 1) = ps.take j ++ [ps[j]]) := by unfold Hid; rw [List.take_succ_eq_append_getElem hlt]
      have HM : Hid (ps[j] ∈ ps) := List.getElem_mem hlt
      generalize ps[j] = l at hx hy HX HM
      by_cases hxb : l.to_ = b
      · have t1 : (l.to_ == b) = true := by simp [hxb]
        have HE : Hid (linkedB rows a b = true) := by unfold Hid linkedB; rw [HP.out, List.any_eq_true]; exact ⟨l, HM.out, t1⟩
        clear hxb
        go_wp2_with fail
        go_ret
        exact ⟨by rw [HE.out]; rfl, HB0.out⟩
      · have t1 : (l.to_ == b) = false := by simp [hxb]
        clear hxb
        have HT := Lib.hid t1
        go_wp2_with fail
        go_round
        case rel => exact ⟨j + 1, by omega, by go_num, by rw [HX.out, List.any_append, HN.out]; simpa using HT.out⟩
        case measure => simp [intOf]; omega
    · have HE : Hid (linkedB rows a b = false) := by unfold Hid linkedB; rw [HP.out, ← List.take_of_length_le (show ps.length ≤ j by omega)]; exact HN.out
      go_wp2_with fail
      go_ret
      exact ⟨by rw [HE.out]; rfl, HB0.out⟩
end Go.Proofs.Ythapikakneikbaa
/-
  The specification's package selfstabref01: In, Has, All, Port, linksValid; selfstabworld.Bit.
-/
namespace Go.Proofs.Ythapikakneikbaa
open Go.RowKit
def inB (v lo hi : Int) : Bool := decide (lo ≤ v ∧ v ≤ hi)
theorem in_calls (w : World) (v lo hi : Int) : Calls Try.prog 116 #[.int .i64 v, .int .i64 lo, .int .i64 hi] w fun e w' => e = .returned (.bool (inB v lo hi)) ∧ w = w' := by
  by_cases h0 : lo ≤ v
  · by_cases h1 : v ≤ hi
    · have HE : Hid (inB v lo hi = true) := decide_eq_true ⟨h0, h1⟩
      go_enter Try.func116, Try.ntmps116
      go_wp2_with fail
      go_ret
      exact ⟨by rw [HE.out]; rfl, rfl⟩
    · have HE : Hid (inB v lo hi = false) := decide_eq_false fun h => h1 h.2
      go_enter Try.func116, Try.ntmps116
      go_wp2_with fail
      go_ret
      exact ⟨by rw [HE.out]; rfl, rfl⟩
  · have HE : Hid (inB v lo hi = false) := decide_eq_false fun h => h0 h.1
    go_enter Try.func116, Try.ntmps116
    go_wp2_with fail
    go_ret
    exact ⟨by rw [HE.out]; rfl, rfl⟩
/-- The first port that leads to u, or -1. -/
def portOf (ps : List Link) (u : Int) : Int := match ps.findIdx? (fun l => l.to_ == u) with | some k => k | none => -1
def portAt (rows : List (List Link)) (a : Nat) (b : Int) : Int := portOf (rows.getD a []) b
set_option maxRecDepth 100000 in
theorem port_calls (w : World) (v0 : Value) (A1 : Option Addr) (c1 : Nat) (rows : List (List Link)) (hr : kLink.slice.C w A1 rows) (a : Nat) (ha : a < rows.length) (b : Int) :
    Calls Try.prog 118 #[.agg #[v0, .slice A1 rows.length c1], .int .i64 a, .int .i64 b] w fun e w' => e = .returned (.int .i64 (portAt rows a b)) ∧ Below w.heap.size w w' := by
  have hb0 := (Below.refl w.heap.size w).alloc (Nat.le_refl _) (.cells #[v0, .slice A1 rows.length c1] 27)
  obtain ⟨ad, A4, c4, hA, hcell, hl4, hC4⟩ := Kd.at_slice (Kd.C_below hr hb0) a ha
  cases hA
  have HP : Hid (rows.getD a [] = rows[a]) := by unfold Hid; simp [List.getD_eq_getElem?_getD, ha]
  generalize rows[a] = ps at hcell hl4 hC4 HP
  have hpm := Kd.C_max hC4
  have hrm := Kd.C_max hr
  have HC4 := Lib.hid hC4
  have HB0 := Lib.hid hb0
  clear hr hC4 hb0
  go_enter Try.func118, Try.ntmps118
  go_wp2_with fail
  go_loop [7] (fun i => ∃ j : Nat, j ≤ ps.length ∧ i = .int .i64 j ∧ (ps.take j).any (fun l => l.to_ == b) = false) (fun i => ps.length - (intOf i).toNat)
  case atStart => exact ⟨0, Nat.zero_le _, rfl, by simp⟩
  case round =>
    obtain ⟨j, hj, rfl, hn⟩ := hrel
    have HN := Lib.hid hn
    clear hn
    by_cases hlt : j < ps.length
    · obtain ⟨ad2, hA2, hx, hy⟩ := at_link HC4.out j hlt
      cases hA2
      have HX : Hid (ps.take (j + 1) = ps.take j ++ [ps[j]]) := by unfold Hid; rw [List.take_succ_eq_append_getElem hlt]
      have HF : Hid ((ps[j].to_ == b) = true → portAt rows a b = j) := by
        intro h
        have h2 : ps.findIdx? (fun l => l.to_ == b) = some j := by
          rw [List.findIdx?_eq_some_iff_getElem]
          refine ⟨hlt, h, fun i hi => ?_⟩
          have h3 := HN.out
          rw [List.any_eq_false] at h3
          exact h3 _ (List.mem_take_iff_getElem.2 ⟨i, by omega, rfl⟩)
        unfold portAt portOf
        rw [HP.out, h2]
      generalize ps[j] = l at hx hy HX HF
      by_cases hxb : l.to_ = b
      · have t1 : (l.to_ == b) = true := by simp [hxb]
        have HE := Lib.hid (HF.out t1)
        clear hxb
        go_wp2_with fail
        go_ret
        exact ⟨by rw [HE.out]; rfl, HB0.out⟩
      · have t1 : (l.to_ == b) = false := by simp [hxb]
        clear hxb
        have HT := Lib.hid t1
        go_wp2_with fail
        go_round
        case rel => exact ⟨j + 1, by omega, by go_num, by rw [HX.out, List.any_append, HN.out]; simpa using HT.out⟩
        case measure => simp [intOf]; omega
    · have HE : Hid (portAt rows a b = -1) := by
        have h3 := HN.out
        rw [List.take_of_length_le (by omega), List.any_eq_false] at h3
        have h2 : ps.findIdx? (fun l => l.to_ == b) = none := by
          rw [List.findIdx?_eq_none_iff]
          intro x hx
          have := h3 x hx
          simpa using this
        unfold Hid portAt portOf
        rw [HP.out, h2]
      go_wp2_with fail
      go_ret
      exact ⟨by rw [HE.out]; rfl, HB0.out⟩
/-! ### linksValid -/
def linkOK (v n : Nat) (l : Link) : Bool := decide (0 ≤ l.to_ ∧ l.to_ < n ∧ l.to_ ≠ v ∧ 1 ≤ l.wt ∧ l.wt ≤ 15)
def linksB (ps : List Link) (v n : Nat) : Bool := ps.all (linkOK v n) && apart (ps.map Link.to_)
theorem links_bad {ps : List Link} {v n k : Nat} (hk : k < ps.length) (h : linkOK v n ps[k] = false ∨ ∃ u, u < k ∧ ∃ hu : u < ps.length, ps[u].to_ = ps[k].to_) : linksB ps v n = false := by
  cases hb : linksB ps v n with
  | false => rfl
  | true =>
    simp only [linksB, Bool.and_eq_true, List.all_eq_true, apart, decide_eq_true_eq] at hb
    rcases h with h | ⟨u, hu, hu2, h⟩
    · rw [hb.1 _ (List.getElem_mem hk)] at h; cases h
    · have h2 := (List.nodup_iff_pairwise_ne.1 hb.2)
      rw [List.pairwise_iff_getElem] at h2
      have := h2 u k (by simpa using hu2) (by simpa using hk) hu
      simp [h] at this
theorem links_good {ps : List Link} {v n : Nat} (h : ∀ k (hk : k < ps.length), linkOK v n ps[k] = true ∧ ∀ u (hu : u < k), ps[u].to_ ≠ ps[k].to_) : linksB ps v n = true := by
  simp only [linksB, Bool.and_eq_true, List.all_eq_true, apart, decide_eq_true_eq]
  refine ⟨fun l hl => ?_, ?_⟩
  · obtain ⟨k, hk, rfl⟩ := List.mem_iff_getElem.1 hl
    exact (h k hk).1
  · rw [List.nodup_iff_pairwise_ne, List.pairwise_iff_getElem]
    intro i j hi hj hij
    simp only [List.getElem_map]
    exact (h j (by simpa using hj)).2 i hij
/-- The links before port k are in order. -/
def LinksTo (ps : List Link) (v n k : Nat) : Prop := ∀ i (hi : i < ps.length), i < k → linkOK v n ps[i] = true ∧ ∀ u (hu : u < i), ps[u].to_ ≠ ps[i].to_
set_option maxHeartbeats 4000000 in
set_option maxRecDepth 100000 in
theorem linksValid_calls (w : World) (A : Option Addr) (c : Nat) (ps : List Link) (hp : kLink.C w A ps) (v n : Nat) (_hv : v ≤ 100) (hn : n ≤ 100) :
    Calls Try.prog 117 #[.slice A ps.length c, .int .i64 v, .int .i64 n] w fun e w' => e = .returned (.bool (linksB ps v n)) ∧ Below w.heap.size w w' := by
  have hpm := Kd.C_max hp
  have HC := Lib.hid hp
  clear hp
  go_enter Try.func117, Try.ntmps117
  go_wp2_with fail
  go_loopw [7] (fun i wr => ∃ k : Nat, k ≤ ps.length ∧ i = .int .i64 k ∧ LinksTo ps v n k ∧ Below w.heap.size w wr) (fun i _ => ps.length - (intOf i).toNat)
  case atStart => exact ⟨0, Nat.zero_le _, rfl, fun _ _ h => absurd h (Nat.not_lt_zero _), Below.refl _ _⟩
  case round =>
    obtain ⟨k, hk, rfl, hl, hb⟩ := hrel
    have HL := Lib.hid hl
    have HB := Lib.hid hb
    clear hl hb
    obtain ⟨wv, rfl⟩ : ∃ wv : World, wv = wr := ⟨_, rfl⟩
    by_cases hlt : k < ps.length
    · obtain ⟨ad, hA, hx, hy⟩ := at_link (Kd.C_below HC.out HB.out) k hlt
      subst hA
      have HBAD1 : Hid (linkOK v n ps[k] = false → linksB ps v n = false) := fun h => links_bad hlt (.inl h)
      have HBAD2 : Hid (∀ u, u < k → ∀ hu : u < ps.length, ps[u].to_ = ps[k].to_ → linksB ps v n = false) := fun u h1 h2 h3 => links_bad hlt (.inr ⟨u, h1, h2, h3⟩)
      have HSTEP : Hid (linkOK v n ps[k] = true → (∀ u (hu : u < k), ps[u].to_ ≠ ps[k].to_) → LinksTo ps v n (k + 1)) := fun h1 h2 i hi hik => by
        by_cases e : i = k
        · subst e; exact ⟨h1, h2⟩
        · exact HL.out i hi (by omega)
      generalize hkl : ps[k] = l at hx hy HBAD1 HBAD2 HSTEP
      have HKL := Lib.hid hkl
      clear hkl
      go_wp2_with fail
      refine (in_calls _ _ _ _).mono ?_
      rintro e w1 ⟨rfl, rfl⟩
      cases h1 : inB l.to_ 0 ((n : Int) - 1) with
      | false =>
        have HE := Lib.hid (HBAD1.out (by simp only [inB, decide_eq_false_iff_not] at h1; simp only [linkOK, decide_eq_false_iff_not]; omega))
        clear h1
        go_wp2_with fail
        go_ret
        exact ⟨by rw [HE.out]; rfl, HB.out⟩
      | true =>
        have H1 : Hid (0 ≤ l.to_ ∧ l.to_ < n) := by simp only [inB, decide_eq_true_eq] at h1; unfold Hid; omega
        clear h1
        by_cases h2 : l.to_ = (v : Int)
        · have t2 : (l.to_ == (v : Int)) = true := by simp [h2]
          have HE := Lib.hid (HBAD1.out (by simp only [linkOK, decide_eq_false_iff_not]; omega))
          clear h2
          go_wp2_with fail
          go_ret
          exact ⟨by rw [HE.out]; rfl, HB.out⟩
        · have t2 : (l.to_ == (v : Int)) = false := by simp [h2]
          have H2 := Lib.hid h2
          clear h2
          go_wp2_with fail
          refine (in_calls _ _ _ _).mono ?_
          rintro e w1 ⟨rfl, rfl⟩
          cases h3 : inB l.wt 1 15 with
          | false =>
            have HE := Lib.hid (HBAD1.out (by simp only [inB, decide_eq_false_iff_not] at h3; simp only [linkOK, decide_eq_false_iff_not]; omega))
            clear h3
            go_wp2_with fail
            go_ret
            exact ⟨by rw [HE.out]; rfl, HB.out⟩
          | true =>
            have HOK : Hid (linkOK v n l = true) := by
              have a1 := H1.out
              have a2 := H2.out
              simp only [inB, decide_eq_true_eq] at h3
              unfold Hid
              simp only [linkOK, decide_eq_true_eq]
              omega
            clear h3
            go_wp2_with fail
            go_loopw [8] (fun i wr => ∃ u : Nat, u ≤ k ∧ i = .int .i64 u ∧ (∀ t (ht : t < ps.length), t < u → ps[t].to_ ≠ l.to_) ∧ Below w.heap.size w wr) (fun i _ => k - (intOf i).toNat)
            case atStart => exact ⟨0, Nat.zero_le _, rfl, fun _ _ h => absurd h (Nat.not_lt_zero _), HB.out⟩
            case round =>
              obtain ⟨wq, rfl⟩ : ∃ wq : World, wq = wr := ⟨_, rfl⟩
              obtain ⟨u, hu, rfl, hne, hb2⟩ := hrel
              have HNE := Lib.hid hne
              have HB2 := Lib.hid hb2
              clear hne hb2
              by_cases huk : u < k
              · have hul : u < ps.length := by omega
                obtain ⟨ad3, hA3, hx3, hy3⟩ := at_link (Kd.C_below HC.out HB2.out) u hul
                cases hA3
                obtain ⟨ad4, hA4, hx4, hy4⟩ := at_link (Kd.C_below HC.out HB2.out) k hlt
                cases hA4
                rw [HKL.out] at hx4
                have HB2L : Hid (ps[u].to_ = l.to_ → linksB ps v n = false) := fun h => HBAD2.out u huk hul h
                have HN2 : Hid (ps[u].to_ ≠ l.to_ → ∀ t (ht : t < ps.length), t < u + 1 → ps[t].to_ ≠ l.to_) := fun h t ht htu => by
                  by_cases e : t = u
                  · subst e; exact h
                  · exact HNE.out t ht (by omega)
                have b1 : (u : Int) < (ps.length : Int) := by omega
                have b2 : (k : Int) < (ps.length : Int) := by omega
                have b3 : (0 : Int) ≤ (u : Int) := by omega
                have b4 : (0 : Int) ≤ (k : Int) := by omega
                generalize ps[u].wt = y3 at hy3
                generalize ps[u].to_ = x3 at hx3 HB2L HN2
                clear hx hy hy4
                by_cases he : x3 = l.to_
                · have t5 : (x3 == l.to_) = true := by simp [he]
                  have HE := Lib.hid (HB2L.out he)
                  clear he
                  go_wp2_with fail
                  go_quiet (fail)
                  go_wp2_with fail
                  go_ret
                  exact ⟨by rw [HE.out]; rfl, below_drewN HB2.out _⟩
                · have t5 : (x3 == l.to_) = false := by simp [he]
                  have HE := Lib.hid (HN2.out he)
                  clear he
                  go_wp2_with fail
                  go_quiet (fail)
                  go_wp2_with fail
                  go_roundw
                  case rel => exact ⟨u + 1, by omega, by go_num, HE.out, below_drewN HB2.out _⟩
                  case measure => simp [intOf]; omega
              · have HS := Lib.hid (HSTEP.out HOK.out fun t ht => HNE.out t (by omega) (by omega))
                go_wp2_with fail
                go_roundw
                case rel => exact ⟨k + 1, by omega, by go_num, HS.out, HB2.out⟩
                case measure => simp [intOf]; omega
    · have HE : Hid (linksB ps v n = true) := links_good fun i hi => HL.out i hi (by omega)
      go_wp2_with fail
      go_ret
      exact ⟨by rw [HE.out]; rfl, HB.out⟩
end Go.Proofs.Ythapikakneikbaa
/-
  selfstabworld.Net.nodes: a graph without links, with different identifiers.
-/
namespace Go.Proofs.Ythapikakneikbaa
open Go.RowKit
/-- The identifier id, or the next one behind it that is not on the list. -/
def freshId (ids : List Int) : Nat → Int → Int
  | 0, id => id
  | f + 1, id => if id ∈ ids then freshId ids f ((id + 1) % 256) else id
def nodeId (raw : List Int) (ids : List Int) (v : Nat) : Int := freshId ids 300 (within (at0 raw v) 256)
/-- The identifiers of v nodes. -/
def nodeIds (raw : List Int) : Nat → List Int
  | 0 => []
  | v + 1 => nodeIds raw v ++ [nodeId raw (nodeIds raw v) v]
theorem nodeIds_length (raw : List Int) (v : Nat) : (nodeIds raw v).length = v := by
  induction v with
  | zero => rfl
  | succ v ih => simp [nodeIds, ih]
/-- The k-th identifier behind id. -/
def shift (id : Int) (k : Nat) : Int := (id + k) % 256
theorem shift_step (id : Int) (k : Nat) : (shift id k + 1) % 256 = shift id (k + 1) := by unfold shift; push_cast; omega
theorem shift_inj {id : Int} {j k : Nat} (hj : j < 256) (hk : k < 256) (h : shift id j = shift id k) : j = k := by unfold shift at h; omega
theorem fresh_shift {ids : List Int} {id : Int} {k : Nat} (h : ∀ j, j < k → shift id j ∈ ids) (h0 : shift id 0 = id) : ∀ f, k ≤ f → freshId ids f id = freshId ids (f - k) (shift id k) := by
  induction k with
  | zero => intro f _; rw [h0]; rfl
  | succ k ih =>
    intro f hf
    rw [ih (fun j hj => h j (by omega)) f (by omega)]
    obtain ⟨m, hm⟩ : ∃ m, f - k = m + 1 := ⟨f - k - 1, by omega⟩
    rw [hm, show f - (k + 1) = m from by omega]
    rw [freshId, if_pos (h k (by omega)), shift_step]
/-- So many identifiers that follow each other are on the list: then it is that long. -/
theorem shift_many {ids : List Int} {id : Int} {k : Nat} (hk : k ≤ 256) (h : ∀ j, j < k → shift id j ∈ ids) : k ≤ ids.length := by
  have h1 : ((List.range k).map (shift id)).Nodup := by
    rw [List.nodup_iff_pairwise_ne, List.pairwise_map]
    refine List.Pairwise.imp_of_mem ?_ (List.nodup_iff_pairwise_ne.1 List.nodup_range)
    intro a b ha hb hne e
    exact hne (shift_inj (by have := List.mem_range.1 ha; omega) (by have := List.mem_range.1 hb; omega) e)
  have h2 := List.Nodup.length_le_of_subset h1 (l₂ := ids) fun x hx => by
    obtain ⟨j, hj, rfl⟩ := List.mem_map.1 hx
    exact h j (List.mem_range.1 hj)
  simpa using h2
theorem shift_zero {id : Int} (h : 0 ≤ id ∧ id < 256) : shift id 0 = id := by unfold shift; omega
theorem shift_bd (id : Int) (k : Nat) : 0 ≤ shift id k ∧ shift id k < 256 := by unfold shift; omega
/-- Where the search ends. -/
theorem fresh_end {ids : List Int} {id : Int} {k : Nat} (hk : k < 300) (h0 : shift id 0 = id) (h : ∀ j, j < k → shift id j ∈ ids) (hn : shift id k ∉ ids) : freshId ids 300 id = shift id k := by
  rw [fresh_shift h h0 300 (by omega)]
  obtain ⟨m, hm⟩ : ∃ m, 300 - k = m + 1 := ⟨300 - k - 1, by omega⟩
  rw [hm, freshId, if_neg hn]
/-- Some identifier is free. -/
theorem fresh_is {ids : List Int} {id : Int} (hl : ids.length ≤ 200) (h0 : 0 ≤ id ∧ id < 256) : ∃ k, k ≤ ids.length ∧ (∀ j, j < k → shift id j ∈ ids) ∧ shift id k ∉ ids ∧ freshId ids 300 id = shift id k := by
  have : ∃ k, k ≤ ids.length ∧ shift id k ∉ ids := Classical.byContradiction fun hc => by
    have : ∀ j, j < ids.length + 1 → shift id j ∈ ids := fun j hj => Classical.byContradiction fun h => hc ⟨j, by omega, h⟩
    have := shift_many (k := ids.length + 1) (by omega) this
    omega
  obtain ⟨k0, hk0, hn0⟩ := this
  have key : ∀ n, (∀ j, j < n → shift id j ∈ ids) ∨ ∃ k, k < n ∧ (∀ j, j < k → shift id j ∈ ids) ∧ shift id k ∉ ids := by
    intro n
    induction n with
    | zero => exact .inl fun j hj => absurd hj (Nat.not_lt_zero _)
    | succ n ih =>
      rcases ih with h | ⟨k, h1, h2, h3⟩
      · by_cases hm : shift id n ∈ ids
        · refine .inl fun j hj => ?_
          by_cases e : j = n
          · rw [e]; exact hm
          · exact h j (by omega)
        · exact .inr ⟨n, by omega, h, hm⟩
      · exact .inr ⟨k, by omega, h2, h3⟩
  rcases key (k0 + 1) with h | ⟨k, h1, h2, h3⟩
  · exact absurd (h k0 (by omega)) hn0
  · exact ⟨k, by omega, h2, h3, fresh_end (by omega) (shift_zero h0) h2 h3⟩
theorem nodeIds_ok (raw : List Int) (v : Nat) (hv : v ≤ 100) : (∀ x ∈ nodeIds raw v, 0 ≤ x ∧ x < 256) ∧ (nodeIds raw v).Nodup := by
  induction v with
  | zero => simp [nodeIds]
  | succ v ih =>
    obtain ⟨h1, h2⟩ := ih (by omega)
    obtain ⟨k, _, _, hn, hf⟩ := fresh_is (ids := nodeIds raw v) (by rw [nodeIds_length]; omega) (within_bd (v := at0 raw v) (m := 256) (by omega))
    have he : nodeId raw (nodeIds raw v) v = shift (within (at0 raw v) 256) k := hf
    refine ⟨fun x hx => ?_, ?_⟩
    · rcases List.mem_append.1 hx with hx | hx
      · exact h1 x hx
      · rw [List.mem_singleton.1 hx, he]; exact shift_bd _ _
    · unfold nodeIds
      rw [List.nodup_append]
      refine ⟨h2, by simp, fun a ha b hb e => hn ?_⟩
      rw [List.mem_singleton.1 hb, he] at e
      exact e ▸ ha
def nodeCount (N : Int) (most : Int) : Nat := (1 + within (wrap64 (N - 1)) most).toNat
theorem nodeCount_bd {N most : Int} (hm : 1 ≤ most) : 1 ≤ nodeCount N most ∧ (nodeCount N most : Int) ≤ most ∧ (nodeCount N most : Int) = 1 + within (wrap64 (N - 1)) most := by
  have := within_bd (v := wrap64 (N - 1)) hm
  unfold nodeCount
  omega
abbrev nilRow : Value := .slice none 0 0
theorem infoRow : (Try.prog.info? 52).map (fun i => (i.zero, i.size, i.bytes)) = some (some nilRow, 1, 24) := by kernel_rfl
/-- What the call of nodes leaves: the identifiers' row, and block P with rows that hold no link yet. -/
def NodesPost (base : Nat) (raw : List Int) (n : Nat) (w w' : World) (e : Ending) : Prop :=
  ∃ vI P, e = .returned (.agg #[vI, .slice (some ⟨P, 0, none⟩) n n]) ∧ w'.ownsRow base 3 1 vI n (icells (nodeIds raw n)) ∧ PortsAt w' base P (List.replicate n nilRow) (List.replicate n []) ∧ Below base w w'
theorem rows_none (w : World) (base n : Nat) : Rows w base (List.replicate n nilRow) (List.replicate n []) := by
  refine ⟨by simp, ?_, ?_, ?_⟩
  · intro u v ps h1 h2
    obtain rfl : v = nilRow := by have := List.mem_of_getElem? h1; simp at this; exact this.2
    obtain rfl : ps = [] := by have := List.mem_of_getElem? h2; simp at this; exact this.2
    exact World.ownsRow_nil w base _ 2
  · intro u u' v v' h1 h2 _
    obtain rfl : v = nilRow := by have := List.mem_of_getElem? h1; simp at this; exact this.2
    exact .inl rfl
  · intro u v ps h1 _ _
    have := List.mem_of_getElem? h1; simp at this; exact this.2
/-- What holds at the head of the loop over the nodes. -/
structure NodesAt (w wr : World) (cX : Array Value) (G P n v : Nat) (raw : List Int) (vI : Value) : Prop where
  bX : wr.heap[w.heap.size]? = some (.cells cX 24 (0, 0))
  bR : wr.heap[w.heap.size + 1]? = some (.cells #[nilRow, nilRow] 27 (0, 0))
  bG : wr.heap[G]? = some (.cells #[vI, .slice (some ⟨P, 0, none⟩) n n] 27 (0, 0))
  own : wr.ownsRow w.heap.size 3 1 vI v (icells (nodeIds raw v))
  pa : PortsAt wr w.heap.size P (List.replicate n nilRow) (List.replicate n [])
  bel : Below w.heap.size w wr
  ltG : w.heap.size + 1 < G
/-- Behind the append, g is as it was. -/
theorem NodesAt.varG {w wr w1 : World} {cX : Array Value} {G P n v : Nat} {raw : List Int} {vI : Value} {o : Obj} (h : NodesAt w wr cX G P n v raw vI) (hg : (wr.alloc o).grownBy w1 vI.ownBlock) :
    w1.heap[G]? = some (.cells #[vI, .slice (some ⟨P, 0, none⟩) n n] 27 (0, 0)) :=
  blk_keep (blk_alloc h.bG o) hg (own_ne (h.own.alloc o) (blk_alloc h.bG o) (by decide))
/-- An identifier has been appended, and the variable g's field stored. -/
theorem NodesAt.step {w wr w1 : World} {cX : Array Value} {G P n v : Nat} {raw : List Int} {vI v' : Value} {o : Obj} (h : NodesAt w wr cX G P n v raw vI) (ho : w1.ownsRow w.heap.size 3 1 v' (v + 1) (icells (nodeIds raw (v + 1)))) (hg : (wr.alloc o).grownBy w1 vI.ownBlock) :
    NodesAt w (w1.setCell ⟨G, 0, none⟩ v') cX G P n (v + 1) raw v' := by
  have hown := h.own.alloc o
  have k1 : ∀ {k : Nat} {t : TypeId} {cs : Array Value} {fr : Nat × Nat}, wr.heap[k]? = some (.cells cs t fr) → t ≠ 3 → w1.heap[k]? = some (.cells cs t fr) := fun hb hne => blk_keep (blk_alloc hb o) hg (own_ne hown (blk_alloc hb o) hne)
  have hG1 := k1 h.bG (by decide)
  have hneX : w.heap.size ≠ G := by have := h.ltG; omega
  have hneR : w.heap.size + 1 ≠ G := by have := h.ltG; omega
  have hneP : P ≠ G := fun e => by
    have h1 := h.pa.blk
    rw [e, h.bG] at h1
    injection h1 with h1
    injection h1 with _ h1
    exact absurd h1 (by decide)
  refine ⟨blk_far (k1 h.bX (by decide)) hneX, blk_far (k1 h.bR (by decide)) hneR, ?_, ?_, ?_, ?_, h.ltG⟩
  · rw [blk_set 0 v' hG1 (by simp)]
    rfl
  · exact own_keep ho (grown_set _ _ _) fun k hk => by
      cases hk
      exact own_ne ho hG1 (by decide)
  · exact ⟨blk_far (k1 h.pa.blk (by decide)) hneP, rows_none _ _ _, h.pa.hP⟩
  · have hb1 : Below w.heap.size w w1 := (h.bel.alloc h.bel.size o).grown hg (by have := h.bel.size; simp; omega) fun k hk => (own_typed0 h.own k hk).1
    exact hb1.setCell (by have := h.ltG; simp; omega) _
set_option maxHeartbeats 4000000 in
set_option maxRecDepth 100000 in
theorem nodes_calls (w : World) (N : Int) (vL vW : Value) (AI : Option Addr) (cI : Nat) (raw : List Int) (hraw : (Kd.int .i64).C w AI raw) (ap bk : Bool) (most : Int) (hm1 : 1 ≤ most) (hm2 : most ≤ 100) :
    Calls Try.prog 69 #[.agg #[.int .i64 N, vL, vW, .slice AI raw.length cI, .bool ap, .bool bk], .int .i64 most] w fun e w' => NodesPost w.heap.size raw (nodeCount N most) w w' e := by
  obtain ⟨i0, hi0, hz0, hz1, hz2⟩ := info_parts infoRow
  obtain ⟨j0, hj0, jz0, jz1, jz2⟩ := info_parts infoInt
  obtain ⟨hn1, hn2, hn3⟩ := nodeCount_bd (N := N) hm1
  have HRW := Lib.hid hraw
  clear hraw
  go_enter Try.func69, Try.ntmps69
  go_wp2_with fail
  refine (within_calls _ _ _ (by omega)).mono ?_
  rintro e w1 ⟨rfl, rfl⟩
  have hw := within_bd (v := wrap64 (N - 1)) hm1
  generalize within (wrap64 (N - 1)) most = r at hn3 hw
  generalize hnc : nodeCount N most = n at hn1 hn2 hn3
  have HNC := Lib.hid hnc
  clear hnc
  have HN3 := Lib.hid hn3
  have hnr : (n : Int) ≤ 1 + r := by omega
  have hrn : 1 + r ≤ (n : Int) := by omega
  clear hn3
  go_wp2_with (at_make; go_must (refine wpList_make_full _ rfl _ _ 25 rfl w.heap.size 52 i0 _ 1 Try.underlying25 hi0 hz0 hz1 _ _ _ _ n rfl rfl (by have := HN3.out; omega) (by have := HN3.out; omega) (by rw [hz2]; omega) (by unfold maxLen; omega) (by simp; omega) ?_); intro w2 hown2 hgr2)
  have hN0 : NodesAt w (w2.alloc (.cells #[nilRow, .slice (some ⟨w.heap.size + 1 + 1, 0, none⟩) n n] 27)) #[.int .i64 N, vL, vW, .slice AI raw.length cI, .bool ap, .bool bk] w2.heap.size (w.heap.size + 1 + 1) n 0 raw nilRow := by
    have hb0 := ((Below.refl w.heap.size w).alloc (Nat.le_refl _) (.cells #[.int .i64 N, vL, vW, .slice AI raw.length cI, .bool ap, .bool bk] 24)).alloc (by simp) (.cells #[nilRow, nilRow] 27)
    have hz := hgr2.size
    simp only [World.size_alloc] at hz
    have hP : w2.heap[w.heap.size + 1 + 1]? = some (.cells (List.replicate n nilRow).toArray 52 (0, 0)) := by
      rcases hown2.2 with ⟨h0, _⟩ | ⟨g, cap, cur, hv, _, hh, h1, h2, h3, h4⟩
      · simp at h0
      · simp only [Value.slice.injEq, Option.some.injEq, Addr.mk.injEq] at hv
        obtain ⟨⟨hv1, _, _⟩, _, hv2⟩ := hv
        simp only [World.size_alloc] at hv1
        subst hv1
        subst hv2
        rw [hh]
        have hcur : cur.toList = List.replicate n nilRow := by
          have e1 : nilRow.cells = #[nilRow] := rfl
          rw [e1, Nat.mul_one, toList_madeCells_one] at h4
          rw [← h4, List.take_of_length_le (by rw [Array.length_toList]; omega)]
        rw [← hcur]
    have hPs : w.heap.size + 1 + 1 < w2.heap.size := blk_lt hP
    refine ⟨?_, ?_, blk_new rfl, World.ownsRow_nil _ _ _ 1, ⟨blk_alloc hP _, rows_none _ _ _, by omega⟩, ((hb0.grown hgr2 (by simp; omega) (by simp)).alloc (by omega) _), by omega⟩
    · exact blk_alloc (blk_keep (blk_alloc (blk_new rfl) _) hgr2 (by simp)) _
    · exact blk_alloc (blk_keep (blk_new (by simp)) hgr2 (by simp)) _
  have HN0 := Lib.hid hN0
  have hG := hN0.ltG
  clear hown2 hgr2 hN0
  generalize w2.heap.size = G at HN0 hG
  go_loopw [7] (fun i wr => ∃ (v : Nat) (vI : Value), v ≤ n ∧ i = .int .i64 v ∧ NodesAt w wr #[.int .i64 N, vL, vW, .slice AI raw.length cI, .bool ap, .bool bk] G (w.heap.size + 1 + 1) n v raw vI) (fun i _ => n - (intOf i).toNat)
  case atStart => exact ⟨0, nilRow, Nat.zero_le _, rfl, HN0.out⟩
  case round =>
    obtain ⟨v, vI, hv, rfl, hN⟩ := hrel
    have HN := Lib.hid hN
    clear hN HN0
    have hrI := ints_reads (xs := nodeIds raw v) (by rw [nodeIds_length]; exact HN.out.own)
    obtain ⟨A1, c1, hvI, hl1, hC1⟩ := hrI
    rw [nodeIds_length] at hvI hl1
    subst hvI
    have HC1 := Lib.hid hC1
    clear hC1
    by_cases hlt : v < n
    · have cX := blk_cell (j := 3) (v := .slice AI raw.length cI) HN.out.bX rfl
      have cG0 := blk_cell (j := 0) (v := .slice A1 v c1) HN.out.bG rfl
      have fG0 := blk_free 0 HN.out.bG
      have hzw := HN.out.bel.size
      have hGw := blk_lt HN.out.bG
      go_wp2_with fail
      refine (at_calls _ _ _ raw (Kd.C_below HRW.out HN.out.bel) _ (by omega)).mono ?_
      rintro e w3 ⟨rfl, rfl⟩
      go_wp2_with fail
      refine (within_calls _ _ _ (by omega)).mono ?_
      rintro e w4 ⟨rfl, rfl⟩
      have hid := within_bd (v := at0 raw (v : Int)) (m := 256) (by omega)
      have HID : Hid (nodeId raw (nodeIds raw v) v = freshId (nodeIds raw v) 300 (within (at0 raw (v : Int)) 256)) := rfl
      generalize within (at0 raw (v : Int)) 256 = q at hid HID
      have hln := nodeIds_length raw v
      go_wp2_with fail
      obtain ⟨wo, rfl⟩ : ∃ wo : World, wo = wr := ⟨_, rfl⟩
      go_loopg [8, 9] ((201 - 0) * (v + 2) + v) (fun k a b wq => ∃ (s u : Nat), k = (201 - s) * (v + 2) + (v - u) ∧ s ≤ v ∧ u ≤ v ∧ a = .int .i64 (shift q s) ∧ b = .int .i64 u ∧ (∀ j, j < s → shift q j ∈ nodeIds raw v) ∧ (∀ t, t < u → (nodeIds raw v)[t]? ≠ some (shift q s)) ∧ wo = wq)
      case atStart => exact ⟨0, 0, rfl, Nat.zero_le _, Nat.zero_le _, by rw [shift_zero hid], rfl, fun _ h => absurd h (Nat.not_lt_zero _), fun _ h => absurd h (Nat.not_lt_zero _), rfl⟩
      case round =>
        obtain ⟨s, u, hgk, hs, hu, rfl, rfl, hin, hne, rfl⟩ := hrel
        have HIN := Lib.hid hin
        have HNE := Lib.hid hne
        have HGK := Lib.hid hgk
        have hsb := shift_bd q s
        have HSS := Lib.hid (shift_step q s)
        have HQ : Hid (∃ t, t = shift q s) := ⟨_, rfl⟩
        clear hin hne hgk
        by_cases huv : u < v
        · obtain ⟨ad2, hA2, hc2⟩ := Kd.at_int HC1.out u (by omega)
          cases hA2
          have HU : Hid ((nodeIds raw v)[u]? = some (nodeIds raw v)[u]) := List.getElem?_eq_getElem (by omega)
          generalize (nodeIds raw v)[u] = y at hc2 HU
          have huv' : (u : Int) < (v : Int) := by omega
          by_cases hy : y = shift q s
          · have t1 : (y == shift q s) = true := by simp [hy]
            have HMEM : Hid (shift q s ∈ nodeIds raw v) := by unfold Hid; rw [← hy]; exact List.mem_of_getElem? HU.out
            have HIN2 : Hid (∀ j, j < s + 1 → shift q j ∈ nodeIds raw v) := fun j hj => by
              by_cases e : j = s
              · rw [e]; exact HMEM.out
              · exact HIN.out j (by omega)
            have hs2 := shift_many (k := s + 1) (by omega) HIN2.out
            rw [nodeIds_length] at hs2
            clear hy
            have HMEM2 : Hid (shift q (s + 1) = (shift q s + 1) % 256) := HSS.out.symm
            clear HSS HMEM HNE
            generalize shift q s = z at hsb t1 HMEM2
            go_wp2_with fail
            go_roundg ((201 - (s + 1)) * (v + 2) + v)
            case rel => exact ⟨s + 1, 0, rfl, by omega, Nat.zero_le _, by rw [HMEM2.out], rfl, HIN2.out, fun _ h => absurd h (Nat.not_lt_zero _), rfl⟩
            case measure =>
              rw [HGK.out, show 201 - s = 201 - (s + 1) + 1 from by omega, Nat.succ_mul]
              omega
          · have t1 : (y == shift q s) = false := by simp [hy]
            have HNE2 : Hid (∀ t, t < u + 1 → (nodeIds raw v)[t]? ≠ some (shift q s)) := fun t ht => by
              by_cases e : t = u
              · rw [e, HU.out]; simpa using hy
              · exact HNE.out t (by omega)
            clear hy
            generalize hz : shift q s = z at hsb HSS t1
            have HZ := Lib.hid hz
            clear hz
            go_wp2_with fail
            go_roundg ((201 - s) * (v + 2) + (v - (u + 1)))
            case rel => exact ⟨s, u + 1, rfl, hs, by omega, by rw [HZ.out], rfl, HIN.out, HNE2.out, rfl⟩
            case measure =>
              rw [HGK.out]
              omega
        · have huv' : ¬ (u : Int) < (v : Int) := by omega
          have HEND : Hid (nodeId raw (nodeIds raw v) v = shift q s) := by
            rw [Hid, HID.out]
            refine fresh_end (by omega) (shift_zero (by omega)) HIN.out fun hm => ?_
            obtain ⟨t, ht, e⟩ := List.mem_iff_getElem.1 hm
            exact HNE.out t (by omega) (by rw [List.getElem?_eq_getElem ht, e])
          clear HSS HIN HNE
          generalize shift q s = z at hsb HEND
          go_wp2_with (at_builtin; go_must (refine wpList_append_own_at _ rfl _ _ 22 rfl w.heap.size 3 j0 _ 1 8 Try.underlying22 hj0 jz0 jz1 jz2 rfl (by decide) _ _ _ rfl (HN.out.own.alloc _) ⟨wo.heap.size, 0, none⟩ 1 1 [.int .i64 z] rfl rfl (cell_one_new _ _ _) (ints_oneCell .i64 [z]) (by unfold maxLen; omega) (by omega) (by simp; omega) ?_); intro v2 w5 hown5 hgr5 hnil5 hat5; obtain ⟨g2, c2, rfl, _, _⟩ := hown5.form (by omega); have bG5 := HN.out.varG hgr5; have fG5 := blk_free 0 bG5; have cG5 := blk_cell (j := 0) (v := .slice A1 v c1) bG5 rfl)
          go_roundw
          case rel => exact ⟨v + 1, _, by omega, rfl, HN.out.step (by rw [nodeIds, HEND.out]; simpa [icells] using hown5) hgr5⟩
          case measure => simp [intOf]; omega
    · have HE := Lib.hid (show v = n by omega)
      have cG0 := blk_cell (j := 0) (v := .slice A1 v c1) HN.out.bG rfl
      have cG1 := blk_cell (j := 1) (v := .slice (some ⟨w.heap.size + 1 + 1, 0, none⟩) n n) HN.out.bG rfl
      have cR0 := blk_cell (j := 0) (v := nilRow) HN.out.bR rfl
      have cR1 := blk_cell (j := 1) (v := nilRow) HN.out.bR rfl
      have fR0 := blk_free 0 HN.out.bR
      have fR1 := blk_free 1 HN.out.bR
      go_wp2_with fail
      refine bodyPost_ret (v := .agg #[.slice A1 v c1, .slice (some ⟨w.heap.size + 1 + 1, 0, none⟩) n n]) (by simp [results, Try.results69, go_sem, cR0, cR1]) rfl ?_
      rw [HNC.out]
      have HL := HE.out
      subst HL
      have hneG : G ≠ w.heap.size + 1 := by omega
      have hb1 := blk_set 0 (.slice A1 v c1) HN.out.bR (by simp)
      have ho1 := own_keep HN.out.own (grown_set wr ⟨w.heap.size + 1, 0, none⟩ (.slice A1 v c1)) (fun k hk => by cases hk; exact own_ne HN.out.own HN.out.bR (by decide))
      have ho2 := own_keep ho1 (grown_set _ ⟨w.heap.size + 1, 1, none⟩ (.slice (some ⟨w.heap.size + 1 + 1, 0, none⟩) v v)) (fun k hk => by cases hk; exact own_ne ho1 hb1 (by decide))
      exact ⟨.slice A1 v c1, w.heap.size + 1 + 1, rfl, ho2, ⟨blk_far (blk_far HN.out.pa.blk (by simp)) (by simp), rows_none _ _ _, HN.out.pa.hP⟩, (HN.out.bel.setCell (by simp) _).setCell (by simp) _⟩
end Go.Proofs.Ythapikakneikbaa
