/- A part of the proof: lemmas. -/
import Derived.Test.YtdoekadmocabdaaW9
set_option linter.unusedVariables false
set_option linter.unusedSimpArgs false
set_option maxRecDepth 100000
set_option maxHeartbeats 4000000
namespace Go.AM.S
open Go Go.AM

/-- Entries in a row of their own. -/
def erow (l : List Entry) (n : Nat) : AO := .row 69 11 n (entF l)

theorem entL_one (e : Entry) (p q : Nat) (hp : p = 0) (hq : q < 11) : ((entL e)[p * 11 + q]?.getD .und).one = true := by
  subst hp
  obtain rfl | rfl | rfl | rfl | rfl | rfl | rfl | rfl | rfl | rfl | rfl : q = 0 ∨ q = 1 ∨ q = 2 ∨ q = 3 ∨ q = 4 ∨ q = 5 ∨ q = 6 ∨ q = 7 ∨ q = 8 ∨ q = 9 ∨ q = 10 := by omega
  all_goals rfl

theorem entF_snoc (l : List Entry) (e : Entry) (i p q : Nat) (h : l.getD i default = e) (hp : p < i + 1) : (if p < i then entF l p else fun j => (entL e)[(p - i) * 11 + j]?.getD .und) q = entF l p q := by
  split
  · rfl
  · obtain rfl : p = i := by omega
    subst h
    simp [entF]

theorem sOwn (l : List Entry) (hl : l.length < 1000) (hb : ∀ e, e ∈ l → e.key.length < 1000 ∧ e.data.length < 1000) : ASpec Go.Proofs.Try.prog 44 [ents l] [] (fun r h => r = .own 0 11 l.length ∧ h = [erow l l.length]) := by
  refine spec44 ?_ (by simp)
  simp (maxSteps := 10000000) (implicitDefEqProofs := false) [c44, ents]
  refine AWP.loop (D := Nat) (fun i => i ≤ l.length) (fun i => ⟨mkT 26 [(0, ents l), (6, ents l), (7, .int .i64 l.length), (8, .int .i64 i), (3, .own 0 11 i)], [erow l i]⟩) (fun i => l.length - i) 0 (by omega) ?_ ?_
  · refine (Ent.addNil 69 11 (entF l) (by decide) [3] (by simp [mkT_get])).trans ?_
    exact Ent.map [0] (idn rfl) (by simp) (by simp [erow]) (by simp [erow]) (by simp [ents]; exact AVles_mkT (by simp))
  · intro i hi
    apply aexec_sound hmix; apply AX_of
    by_cases hil : i < l.length
    · have hg : l.getD i default = l[i] := by simp [hil]
      have hbi := hb _ (List.getElem_mem hil)
      simp (maxSteps := 10000000) (implicitDefEqProofs := false) [erow, ents, hil, entL]
      refine AC.plain [bs l[i].key] (sClone _ (by omega)) (by simp) ?_
      simp (maxSteps := 10000000) (implicitDefEqProofs := false)
      refine AC.plain [bs l[i].data] (sClone _ (by omega)) (by simp) ?_
      simp (maxSteps := 10000000) (implicitDefEqProofs := false)
      simp (disch := omega) only [IntWalk.i64_in]
      refine ⟨⟨by omega, by omega, fun p q hp hq => entL_one l[i] p q hp hq⟩, i + 1, by omega, by omega, ?_⟩
      refine Ent.map [3] (idn rfl) (by simp) (by simp) ?_ (by simp; exact AVles_mkT (by simp))
      simp
      intro p q hp hq
      exact AVle.of_eq (entF_snoc l l[i] i p q hg hp)
    · obtain rfl : i = l.length := by omega
      simp (maxSteps := 10000000) (implicitDefEqProofs := false) [erow, ents]
      exact Ent.refl _ _
end Go.AM.S
