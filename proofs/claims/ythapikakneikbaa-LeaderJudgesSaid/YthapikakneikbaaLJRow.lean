/-
  The statement LeaderJudges is proved: whatever graph and whatever lists come in, the law returns true, and both arguments read as they did.
  No condition.
-/
import Derived.Test.YthapikakneikbaaRows
import Derived.ShutString
import Derived.SizedLaws
import Derived.Test.YthapikakneikbaaLJ6
namespace Go.Proofs.Ythapikakneikbaa
namespace LeaderJudgesRow
open Go.ChangeShapes Go.WideShapes Go.ChangeAt Go.RowKit
theorem own : ownKnob Try.prog.godebug = none := by kernel_rfl
theorem laidOut : laidOutB Try.prog = true := by kernel_rfl
/-- The law's call. -/
theorem law_calls (W : World) (g : Graph) (A0 : Option Addr) (c0 : Nat) (A1 : Option Addr) (c1 : Nat) (hg : IsGraph W A0 c0 A1 c1 g) (A2 : Option Addr) (c2 : Nat) (c : Conf) (hl : c.length ≤ c2) (hc : kConf.C W A2 c) :
    Calls Try.prog 7 #[.agg #[.slice A0 g.ids.length c0, .slice A1 g.ports.length c1], .slice A2 c.length c2] W fun e w' => e = .returned (.bool true) ∧ Below W.heap.size W w' := by
  obtain ⟨k, hk⟩ := Go.Proofs.YthapikakneikbaaG.leaderJudges g.ids (g.ports.map (List.map Go.Proofs.YthapikakneikbaaG.ofL)) c
  have h := Go.Proofs.YthapikakneikbaaG.selfstablaw26_LeaderJudges.calls k A0 c0 g.ids A1 c1 (g.ports.map (List.map Go.Proofs.YthapikakneikbaaG.ofL)) A2 c2 c true W (Go.Proofs.YthapikakneikbaaG.B_ints hg.ids) hg.idc (Go.Proofs.YthapikakneikbaaG.B_ports hg.ports) (by rw [List.length_map]; exact hg.prc) (Go.Proofs.YthapikakneikbaaG.B_conf hc) hl hk
  rw [List.length_map] at h
  exact h
set_option maxRecDepth 100000 in
theorem lifted (os : Os) (started : os.Started) (H : Type) (enc : TypeId × Value → H) :
    ReturnsInHanded {} Try.checked os 7 .any (Rows.leaderJudgesSpec.pre6 enc Try.prog Try.f7 Rows.leaderJudgesRow.domain false) (Rows.leaderJudgesSpec.post enc Try.prog Try.f7 false true false false) := by
  refine returnsInHanded_of_change_sized (C := Try.checked) own started (by kernel_rfl) Try.func7
    (ChangeSpec.witness6 (enc := enc) (C := Try.checked) false ⟨#[], #[.agg #[.slice none 0 0, .slice none 0 0], .slice none 0 0], []⟩ 8 (by kernel_rfl) (by kernel_rfl) (by kernel_rfl) (by kernel_rfl)) ?_
  intro W base args ds gs before hval0 hW hcnd hsz0 _
  have hval : ∀ (j : Nat) t v, Try.f7.params[j]? = some t → args[j]? = some v → Value.okWide Try.prog W .any base t v := hval0
  have hW' := hW
  obtain ⟨p, q, hA0, hV, rfl, hfz, hnd⟩ := hW
  have hA : DataW.TrodAll enc Try.prog W 0 (fun _ => true) true Try.f7.params.toList args.toList ds p := hA0
  rw [Try.params7] at hA hval
  obtain ⟨v0, vs0, d0, ds0, p0, q0, hargs, rfl, rfl, h0, r0⟩ := trodAll_cons hA
  obtain ⟨v1, vs1, d1, ds1, p1, q1, rfl, rfl, rfl, h1, r1⟩ := trodAll_cons r0
  obtain ⟨rfl, rfl, rfl⟩ := trodAll_nil r1
  obtain rfl : args = #[v0, v1] := by cases args; simp_all
  obtain ⟨rfl, rfl⟩ := trodVars_none hV
  have lt0 : ∀ x ∈ p0, x.block < W.heap.size := by obtain ⟨m, hm⟩ := h0; exact DataW.trod_lt m _ _ _ hm
  have lt1 : ∀ x ∈ p1, x.block < W.heap.size := by obtain ⟨m, hm⟩ := h1; exact DataW.trod_lt m _ _ _ hm
  obtain ⟨g, AG, cG, AP, cP, rfl, hg⟩ := open_graph (hval 0 _ _ rfl rfl) h0
  obtain ⟨c, AR, cR, rfl, hl, hc⟩ := open_list opens_conf ⟨_, Try.underlying29⟩ (hval 1 _ _ rfl rfl) h1
  clear hA0 hval0 hsz0
  refine (law_calls W g AG cG AP cP hg AR cR c hl hc).mono fun e W' ⟨he, bel⟩ => ?_
  subst he
  exact ⟨_, rfl, _, _, _, [], _, [], hW', trodAll_mk1 (shut_bool Try.underlying4 _), (trodAll_cons_mk (Below.trod laidOut (by kernel_rfl) (of_decide_eq_true (by kernel_rfl)) h0 bel lt0) (trodAll_cons_mk (Below.trod laidOut (by kernel_rfl) (of_decide_eq_true (by kernel_rfl)) h1 bel lt1) trodAll_mk0)), rfl, bel.frame _, fun h => by cases h⟩
theorem over : Rows.leaderJudgesRow.holds Try.pinned (OpenSpec.ofChange Rows.leaderJudgesSpec) :=
  OpenClaim.holds_of_wide 7 Try.f7 rfl rfl rfl rfl rfl rfl rfl ⟨rfl, rfl, rfl, rfl, rfl⟩ rfl rfl rfl rfl rfl (by kernel_rfl) Try.func7 (by kernel_rfl)
    (of_decide_eq_true (by kernel_rfl)) (by unfold Func.isWrapper; first | (rw [if_pos (by decide +kernel)]; kernel_rfl) | (rw [if_neg (by decide +kernel)]; exact ⟨rfl, rfl⟩))
    (fun os started H enc _ => lifted os started H enc)
end LeaderJudgesRow
theorem leaderJudges_holds : Rows.LeaderJudgesSaid := LeaderJudgesRow.over
#print axioms leaderJudges_holds
end Go.Proofs.Ythapikakneikbaa
