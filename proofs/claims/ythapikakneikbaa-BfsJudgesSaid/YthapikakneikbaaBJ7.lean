/-
  Lemmas and walks for this claim, part 7: Back.
-/
import Derived.Test.YthapikakneikbaaBJ6
/-
  From the words on memory of the texts written by hand to those of the printed texts: what came in.
-/
namespace Go.Proofs.YthapikakneikbaaG
open Go.RowKit
structure Bk {α β : Type} (d' : HKd β) (d : PKd α) (f : β → α) : Prop where
  sz : d.sz = d'.sz
  K : ∀ {w : World} {x : β} {c : List Value}, d'.K w x c → d.K w (f x) c
theorem Bk.C {α β : Type} {d : PKd α} {d' : HKd β} {f : β → α} (b : Bk d' d f) {w : World} {A : Option Addr} {xs : List β} (h : Go.Proofs.Ythapikakneikbaa.Kd.C d' w A xs) : Go.Proofs.YthapikakneikbaaW.PrintWords.Kd.C d w A xs.length (xs.map f) := by
  obtain ⟨hm, hc⟩ := h
  refine ⟨by simp, hm, fun h0 => ?_⟩
  obtain ⟨ad, e, hr⟩ := hc h0
  refine ⟨ad, e, fun j y hy => ?_⟩
  rw [List.getElem?_map] at hy
  obtain ⟨x, hx, rfl⟩ := Option.map_eq_some_iff.1 hy
  obtain ⟨c, hK, hcell⟩ := hr j x hx
  rw [← b.sz] at hcell
  exact ⟨c, d.K_len (b.K hK), b.K hK, hcell⟩
theorem Bk.int (k : IntKind) : Bk (Go.Proofs.Ythapikakneikbaa.Kd.int k) (Go.Proofs.YthapikakneikbaaW.PrintWords.Kd.int k) id := ⟨rfl, fun h => h⟩
theorem Bk.slice {α β : Type} {d : PKd α} {d' : HKd β} {f : β → α} (b : Bk d' d f) (e : Nat) : Bk d'.slice (Go.Proofs.YthapikakneikbaaW.PrintWords.Kd.slice e d) (List.map f) := ⟨rfl, fun h => by
  obtain ⟨v, rfl, A, c, rfl, hl, hC⟩ := h
  exact ⟨A, c, by rw [List.length_map], by simpa using hl, by simpa using b.C hC⟩⟩
theorem Bk.link : Bk Go.Proofs.Ythapikakneikbaa.kLink k60 ofL := ⟨rfl, fun h => h⟩
theorem B_ints {w : World} {k : IntKind} {A : Option Addr} {xs : List Int} (h : (Go.Proofs.Ythapikakneikbaa.Kd.int k).C w A xs) : Go.Proofs.YthapikakneikbaaW.PrintWords.Kd.C (Go.Proofs.YthapikakneikbaaW.PrintWords.Kd.int k) w A xs.length xs := by
  have := (Bk.int k).C h
  rwa [List.map_id] at this
theorem B_conf {w : World} {A : Option Addr} {c : List (List Int)} (h : Go.Proofs.Ythapikakneikbaa.kConf.C w A c) : Go.Proofs.YthapikakneikbaaW.PrintWords.Kd.C (Go.Proofs.YthapikakneikbaaW.PrintWords.Kd.slice 3 (Go.Proofs.YthapikakneikbaaW.PrintWords.Kd.int .i64)) w A c.length c := by
  have := ((Bk.int .i64).slice 3).C h
  simpa using this
theorem B_ports {w : World} {A : Option Addr} {p : List (List Go.Proofs.Ythapikakneikbaa.Link)} (h : Go.Proofs.Ythapikakneikbaa.kLink.slice.C w A p) : Go.Proofs.YthapikakneikbaaW.PrintWords.Kd.C (Go.Proofs.YthapikakneikbaaW.PrintWords.Kd.slice 60 k60) w A (p.map (List.map ofL)).length (p.map (List.map ofL)) := by
  have := (Bk.link.slice 60).C h
  rw [List.length_map]
  exact this
end Go.Proofs.YthapikakneikbaaG
