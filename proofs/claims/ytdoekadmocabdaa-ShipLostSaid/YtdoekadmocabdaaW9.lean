/- A part of the proof: lemmas. -/
import Derived.Test.YtdoekadmocabdaaW8
set_option linter.unusedVariables false
set_option linter.unusedSimpArgs false
set_option maxRecDepth 100000
set_option maxHeartbeats 4000000
namespace Go.AM.S
open Go Go.AM

@[simp] theorem fz_bs (k s n' : Nat) (f : Nat → Nat → AV) (l : List Int) : fz k s n' f (bs l) = bs l := by simp [bs]
@[simp] theorem fz_entF (k s n' : Nat) (f : Nat → Nat → AV) (l : List Entry) (i j : Nat) : fz k s n' f (entF l i j) = entF l i j := by
  unfold entF entL
  rcases j with _ | _ | _ | _ | _ | _ | _ | _ | _ | _ | _ | j <;> simp

theorem sNames (n : Int) (h : n = 1) : ASpec Go.Proofs.Try.prog 73 [.int .i64 n] [] (fun r h => r = .str [69, 80, 76, 68] ∧ h = []) := by
  subst h
  refine spec73 ?_ (by simp)
  simp (maxSteps := 10000000) (implicitDefEqProofs := false) [c73]
  exact Ent.refl _ _

def withoutN (n : Note) (c : Int) : Note :=
  if c = 69 then { n with epoch := 0 } else if c = 80 then { n with old := 0 } else if c = 76 then { n with lsn := 0 } else { n with data := [] }

theorem noteL_le (n : Note) : AVle (.agg (noteL n)) (noteA n) := AVle.refl _

theorem sWithout (n : Note) (c : Int) (h : c = 69 ∨ c = 80 ∨ c = 76 ∨ c = 68) : ASpec Go.Proofs.Try.prog 74 [noteA n, .int .i32 c] [] (fun r h => r = noteA (withoutN n c) ∧ h = []) := by
  refine spec74 ?_ (by simp)
  rcases h with rfl | rfl | rfl | rfl
  all_goals
    simp (maxSteps := 10000000) (implicitDefEqProofs := false) [c74, noteA, noteL]
    exact Ent.map [] (idn rfl) (by simp) (by simp) (by simp) (by simp [withoutN, noteA, noteL]; try exact AVle.agg (by simp))

/-- A note that brings an entry. -/
def shipN (ep old lsn : Int) (d : List Int) : Note := { kind := 1, epoch := ep, old := old, lsn := lsn, data := d }
def restN (ep old lsn : Int) (d : List Int) : Nat → Note
  | 0 => shipN ep old lsn d
  | 1 => shipN 0 old lsn d
  | 2 => shipN 0 0 lsn d
  | 3 => shipN 0 0 0 d
  | _ => shipN 0 0 0 []

theorem sNoteCheck (ep old lsn : Int) (d : List Int) (hd : d.length ≤ 255) : ASpec Go.Proofs.Try.prog 42 [noteA (shipN ep old lsn d)] [] (fun r h => r = .int .i64 0 ∧ h = []) := by
  refine spec42 ?_ (by simp)
  simp (maxSteps := 10000000) (implicitDefEqProofs := false) [c42, noteA, noteL, shipN]
  refine AC.plain [.int .i64 1] (sNames 1 rfl) (by simp) ?_
  simp (maxSteps := 10000000) (implicitDefEqProofs := false)
  refine AWP.loop (D := Nat) (fun i => i ≤ 4) (fun i => ⟨mkT 124 [(1, .ptr 0 0), (3, .str [69, 80, 76, 68]), (4, .ptr 1 0), (14, .ptr 2 0)], [.cells 32 (noteL (shipN ep old lsn d)), .cells 32 (noteL (restN ep old lsn d i)), .siter [69, 80, 76, 68] i]⟩) (fun i => 4 - i) 0 (by omega) ?_ ?_
  · exact Ent.map [0, 1, 2] (idn rfl) (by simp) (by simp) (by simp [noteL, restN, shipN]) (by simp; exact AVles_mkT (by simp))
  · intro i hi
    apply aexec_sound hmix; apply AX_of
    obtain rfl | rfl | rfl | rfl | rfl : i = 0 ∨ i = 1 ∨ i = 2 ∨ i = 3 ∨ i = 4 := by omega
    · simp (maxSteps := 10000000) (implicitDefEqProofs := false) [noteL, restN, shipN]
      refine AC.plain [noteA (restN ep old lsn d 0), .int .i32 69] (sWithout _ 69 (by simp)) (by simp [noteA, noteL, restN, shipN]) ?_
      simp (maxSteps := 10000000) (implicitDefEqProofs := false) [noteA, noteL, restN, shipN, withoutN]
      refine ⟨1, by omega, by omega, ?_⟩
      exact Ent.map [0, 1, 2] (idn rfl) (by simp) (by simp) (by simp) (by simp; exact AVles_mkT (by simp))
    · simp (maxSteps := 10000000) (implicitDefEqProofs := false) [noteL, restN, shipN]
      refine AC.plain [noteA (restN ep old lsn d 1), .int .i32 80] (sWithout _ 80 (by simp)) (by simp [noteA, noteL, restN, shipN]) ?_
      simp (maxSteps := 10000000) (implicitDefEqProofs := false) [noteA, noteL, restN, shipN, withoutN]
      refine ⟨2, by omega, by omega, ?_⟩
      exact Ent.map [0, 1, 2] (idn rfl) (by simp) (by simp) (by simp) (by simp; exact AVles_mkT (by simp))
    · simp (maxSteps := 10000000) (implicitDefEqProofs := false) [noteL, restN, shipN]
      refine AC.plain [noteA (restN ep old lsn d 2), .int .i32 76] (sWithout _ 76 (by simp)) (by simp [noteA, noteL, restN, shipN]) ?_
      simp (maxSteps := 10000000) (implicitDefEqProofs := false) [noteA, noteL, restN, shipN, withoutN]
      refine ⟨3, by omega, by omega, ?_⟩
      exact Ent.map [0, 1, 2] (idn rfl) (by simp) (by simp) (by simp) (by simp; exact AVles_mkT (by simp))
    · simp (maxSteps := 10000000) (implicitDefEqProofs := false) [noteL, restN, shipN]
      refine AC.plain [noteA (restN ep old lsn d 3), .int .i32 68] (sWithout _ 68 (by simp)) (by simp [noteA, noteL, restN, shipN]) ?_
      simp (maxSteps := 10000000) (implicitDefEqProofs := false) [noteA, noteL, restN, shipN, withoutN]
      refine ⟨4, by omega, by omega, ?_⟩
      exact Ent.map [0, 1, 2] (idn rfl) (by simp) (by simp) (by simp) (by simp; exact AVles_mkT (by simp))
    · have h1 : (d.length : Int) ≤ 255 := by omega
      have h2 : ¬ ((255 : Int) < d.length) := by omega
      simp (maxSteps := 10000000) (implicitDefEqProofs := false) [noteL, restN, shipN, bs, h1, h2]
      exact Ent.map [] (idn rfl) (by simp) (by simp) (by simp) (by simp)

theorem sClone (l : List Int) (hl : l.length < 1000000) : ASpec Go.Proofs.Try.prog 50 [bs l] [] (fun r h => r = bs l ∧ h = []) := by
  refine spec50 ?_ (by simp)
  by_cases h0 : l = []
  · subst h0
    simp (maxSteps := 10000000) (implicitDefEqProofs := false) [c50, bs]
    refine ⟨Ent.map [] (idn rfl) (by simp) (by simp) (by simp) (by simp; exact AVle.nils), ?_⟩
    refine (Ent.frz 1 (T := 5) (s := 1) (n' := 0) (f := bf []) rfl).trans ?_
    exact Ent.map [] (idn rfl) (by simp) (by simp) (by simp) (by simp)
  · have hp : 0 < l.length := List.length_pos_iff.2 h0
    simp (maxSteps := 10000000) (implicitDefEqProofs := false) [c50, bs, hp]
    refine ⟨by omega, ?_⟩
    refine (Ent.frz 1 (T := 5) (s := 1) (n' := l.length) (f := bf l) rfl).trans ?_
    exact Ent.map [] (idn rfl) (by simp) (by simp) (by simp) (by simp)
end Go.AM.S
