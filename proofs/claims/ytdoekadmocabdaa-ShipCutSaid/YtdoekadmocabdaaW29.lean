/- Proved: for every input drayagelaw19.ShipCut returns true, and its arguments read as they did; no condition. -/
import Derived.Test.YtdoekadmocabdaaW26
import Derived.Test.YtdoekadmocabdaaAM18
import Derived.Test.YtdoekadmocabdaaRows
namespace Go.Proofs.Ytdoekadmocabdaa.shipCut
open Go Go.AM Go.AM.S Go.ChangeShapes Go.WideShapes Go.ChangeAt Go.RowKit
open Go.ChangeMaps (open_string shut_string)
set_option linter.unusedVariables false

theorem own : ownKnob Try.prog.godebug = none := by kernel_rfl
theorem laidOut : laidOutB Try.prog = true := by kernel_rfl

theorem wf_u8 {l : List Int} (h : ∀ n ∈ l, (Lit.int .u8 n).wf = true) : Go.AM.S.bytes l := fun x hx => by
  have := bounds_u8 (h x hx)
  omega

theorem walk (c a b : List Int) (gone : Int) (W : World) (v0 v1 v2 : Value) (h0 : Came .u8 W v0 c) (h1 : Came .u8 W v1 a) (h2 : Came .u8 W v2 b) :
    Calls Try.prog 5 #[.agg #[v0, v1, v2], .int .i64 gone] W fun e w' => e = .returned (.bool true) ∧ Below W.heap.size W w' := by
  have hm : maxLen < 9223372036854775808 := by unfold maxLen; omega
  refine law_calls (vs := [.agg #[v0, v1, v2], .int .i64 gone]) (sCut c a b gone (wf_u8 h0.1) (wf_u8 h1.1) (wf_u8 h2.1) (by have := h0.2.1; omega) (by have := h1.2.1; omega) (by have := h2.2.1; omega)) ?_
  have r0 := came_rel h0
  have r1 := came_rel h1
  have r2 := came_rel h2
  unfold CRelL
  refine ⟨_, _, rfl, ?_, ?_⟩
  · unfold CRel
    refine ⟨_, rfl, ?_⟩
    unfold CRelL
    refine ⟨_, _, rfl, r0, ?_⟩
    unfold CRelL
    refine ⟨_, _, rfl, r1, ?_⟩
    unfold CRelL
    exact ⟨_, _, rfl, r2, by unfold CRelL; rfl⟩
  · unfold CRelL
    exact ⟨_, _, rfl, by unfold CRel; rfl, by unfold CRelL; rfl⟩

set_option maxRecDepth 100000 in
theorem lifted (os : Os) (started : os.Started) (H : Type) (enc : TypeId × Value → H) :
    ReturnsInHanded {} Try.checked os 5 .any (Rows.shipCutSpec.pre6 enc Try.prog Try.f5 Rows.shipCutRow.domain false) (Rows.shipCutSpec.post enc Try.prog Try.f5 false true false false) := by
  refine returnsInHanded_of_change_sized (C := Try.checked) own started (by kernel_rfl) Try.func5
    (ChangeSpec.witness6 (enc := enc) (C := Try.checked) false ⟨#[], #[.agg #[.slice none 0 0, .slice none 0 0, .slice none 0 0], .int .i64 0], []⟩ 8 (by kernel_rfl) (by kernel_rfl) (by kernel_rfl) (by kernel_rfl)) ?_
  intro W base args ds gs before hval0 hW hcnd hsz0 _
  have hval : ∀ (j : Nat) t v, Try.f5.params[j]? = some t → args[j]? = some v → Value.okWide Try.prog W .any base t v := hval0
  have hW' := hW
  obtain ⟨p, q, hA0, hV, rfl, hfz, hnd⟩ := hW
  have hA : DataW.TrodAll enc Try.prog W 0 (fun _ => true) true Try.f5.params.toList args.toList ds p := hA0
  rw [Try.params5] at hA hval
  obtain ⟨v0, vs0, d0, ds0, p0, q0, hargs, rfl, rfl, h0, r0⟩ := trodAll_cons hA
  obtain ⟨v1, vs1, d1, ds1, p1, q1, rfl, rfl, rfl, h1, r1⟩ := trodAll_cons r0
  obtain ⟨rfl, rfl, rfl⟩ := trodAll_nil r1
  obtain rfl : args = #[v0, v1] := by cases args; simp_all
  obtain ⟨rfl, rfl⟩ := trodVars_none hV
  have k0 := h0
  have lt0 : ∀ x ∈ p0, x.block < W.heap.size := by obtain ⟨m, hm⟩ := k0; exact DataW.trod_lt m _ _ _ hm
  obtain ⟨c0, c1, c2, y0, y1, y2, n, rfl, _, _, g0, g1, g2⟩ := Go.Joins.open_agg3 Try.underlying24 (by kernel_rfl) (by kernel_rfl) (hval 0 24 v0 rfl rfl) h0
  obtain ⟨l0, e0⟩ := came_of Try.underlying22 Try.underlying5 (by kernel_rfl) g0
  obtain ⟨l1, e1⟩ := came_of Try.underlying22 Try.underlying5 (by kernel_rfl) g1
  obtain ⟨l2, e2⟩ := came_of Try.underlying22 Try.underlying5 (by kernel_rfl) g2
  obtain ⟨a1, rfl, rfl, rfl, w1⟩ := open_int Try.underlying3 (hval 1 3 v1 rfl rfl) h1
  clear hA0 hval0 hsz0
  refine (walk l0 l1 l2 a1 W c0 c1 c2 e0 e1 e2).mono fun e W' ⟨he, bel⟩ => ?_
  subst he
  exact ⟨_, rfl, _, _, _, [], _, [], hW', trodAll_mk1 (shut_bool Try.underlying4 _), (trodAll_cons_mk (Below.trod laidOut (by kernel_rfl) (of_decide_eq_true (by kernel_rfl)) k0 bel lt0) (trodAll_cons_mk (shut_int Try.underlying3 w1) trodAll_mk0)), rfl, bel.frame _, fun h => by cases h⟩

theorem over : Rows.shipCutRow.holds Try.pinned (OpenSpec.ofChange Rows.shipCutSpec) :=
  OpenClaim.holds_of_wide 5 Try.f5 rfl rfl rfl rfl rfl rfl rfl ⟨rfl, rfl, rfl, rfl, rfl⟩ rfl rfl rfl rfl rfl (by kernel_rfl) Try.func5 (by kernel_rfl)
    (of_decide_eq_true (by kernel_rfl)) (by unfold Func.isWrapper; first | (rw [if_pos (by decide +kernel)]; kernel_rfl) | (rw [if_neg (by decide +kernel)]; exact ⟨rfl, rfl⟩))
    (fun os started H enc _ => lifted os started H enc)
theorem proved : Rows.ShipCutSaid := over
#print axioms proved
end Go.Proofs.Ytdoekadmocabdaa.shipCut
namespace Go.Proofs.Ytdoekadmocabdaa
/-- The row, under a short name, for the claim. -/
theorem shipCut_holds : Rows.ShipCutSaid := shipCut.proved
end Go.Proofs.Ytdoekadmocabdaa
