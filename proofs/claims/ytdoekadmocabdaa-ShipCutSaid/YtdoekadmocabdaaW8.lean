/- A part of the proof: lemmas. -/
import Derived.Test.YtdoekadmocabdaaW7
import Derived.Test.YtdoekadmocabdaaIC2
set_option linter.unusedVariables false
set_option linter.unusedSimpArgs false
set_option maxRecDepth 100000
set_option maxHeartbeats 4000000
namespace Go.AM.S
open Go Go.AM

theorem sShipRow (l : List Entry) (h : RowOk l) (hl : l.length < 1000) : ASpec Go.Proofs.Try.prog 37 [ents l] [] (fun r h => r = .bool true ∧ h = []) := by
  refine spec37 ?_ (by simp)
  simp (maxSteps := 10000000) (implicitDefEqProofs := false) [c37]
  refine AC.plain [ents l] (sRow l h hl) (by simp [ents]) ?_
  simp (maxSteps := 10000000) (implicitDefEqProofs := false)
  exact Ent.refl _ _

/-- The first Lsn. -/
def firstL (l : List Entry) : Int := match l with
  | [] => 1
  | e :: _ => e.lsn
def lastL (l : List Entry) : Int := (l.getLast?.map (·.lsn)).getD 0

theorem sFirst (l : List Entry) : ASpec Go.Proofs.Try.prog 38 [ents l] [] (fun r h => r = .int .u64 (firstL l) ∧ h = []) := by
  refine spec38 ?_ (by simp)
  cases l with
  | nil =>
    simp (maxSteps := 10000000) (implicitDefEqProofs := false) [c38, ents, firstL]
    exact Ent.refl _ _
  | cons e l =>
    have h0 : ¬ ((l.length : Int) + 1 = 0) := by omega
    have h1 : (0 : Int) < l.length + 1 := by omega
    have h2 : entF (e :: l) 0 1 = .int .u64 e.lsn := rfl
    simp (maxSteps := 10000000) (implicitDefEqProofs := false) [c38, ents, firstL, h0, h1, h2]
    exact Ent.refl _ _

theorem sLast (l : List Entry) (hl : l.length < 1000) : ASpec Go.Proofs.Try.prog 39 [ents l] [] (fun r h => r = .int .u64 (lastL l) ∧ h = []) := by
  refine spec39 ?_ (by simp)
  by_cases hn : l = []
  · subst hn
    simp (maxSteps := 10000000) (implicitDefEqProofs := false) [c39, ents, lastL]
    exact Ent.refl _ _
  · have hp : 0 < l.length := List.length_pos_iff.2 hn
    have h0 : ¬ ((l.length : Int) = 0) := by omega
    have h1 : IntKind.i64.wrap ((l.length : Int) - 1) = l.length - 1 := IntWalk.i64_in _ (by omega)
    have h2 : (0 : Int) ≤ l.length - 1 := by omega
    have h3 : ((l.length : Int) - 1).toNat = l.length - 1 := by omega
    have h4 : entF l (l.length - 1) 1 = .int .u64 (lastL l) := by
      have hlt : l.length - 1 < l.length := by omega
      have e1 : l.getD (l.length - 1) default = l[l.length - 1] := by simp [hlt]
      have e2 : lastL l = l[l.length - 1].lsn := by
        unfold lastL
        rw [List.getLast?_eq_getElem?, List.getElem?_eq_getElem hlt]; rfl
      unfold entF
      rw [e1, e2]; rfl
    simp (maxSteps := 10000000) (implicitDefEqProofs := false) [c39, ents, h0, hn, h1, h2, h3, h4]
    exact ⟨by omega, Ent.refl _ _⟩

theorem sAt (l : List Entry) (i : Nat) (n : Int) (hi : i < l.length) (hn0 : 0 < n) (hn : n = firstL l + i) (hl : l.length < 1000) (hb : 0 ≤ firstL l) : ASpec Go.Proofs.Try.prog 41 [ents l, .int .u64 n] [] (fun r h => r = .int .u32 (l.getD i default).epoch ∧ h = []) := by
  refine spec41 ?_ (by simp)
  have h0 : ¬ n = 0 := by omega
  simp (maxSteps := 10000000) (implicitDefEqProofs := false) [c41, ents, h0]
  refine AC.plain [ents l] (sFirst l) (by simp [ents]) ?_
  have h1 : IntKind.u64.wrap (n - firstL l) = i := by rw [IntWalk.u64_in _ (by omega)]; omega
  have h2 : entF l i 2 = .int .u32 (l.getD i default).epoch := rfl
  simp (maxSteps := 10000000) (implicitDefEqProofs := false) [h1, h2, hi]
  exact Ent.refl _ _

theorem sAt0 (l : List Entry) : ASpec Go.Proofs.Try.prog 41 [ents l, .int .u64 0] [] (fun r h => r = .int .u32 0 ∧ h = []) := by
  refine spec41 ?_ (by simp)
  simp (maxSteps := 10000000) (implicitDefEqProofs := false) [c41, ents]
  exact Ent.refl _ _

structure Note where
  kind : Int := 0
  epoch : Int := 0
  old : Int := 0
  lsn : Int := 0
  tick : Int := 0
  order : Int := 0
  step : Int := 0
  undo : Bool := false
  code : Int := 0
  key : List Int := []
  data : List Int := []
  deriving DecidableEq

def noteL (n : Note) : List AV := [.int .i64 n.kind, .int .u32 n.epoch, .int .u32 n.old, .int .u64 n.lsn, .int .u64 n.tick, .int .u32 n.order, .int .i64 n.step, .bool n.undo, .int .i64 n.code, bs n.key, bs n.data]
def noteA (n : Note) : AV := .agg (noteL n)
@[simp] theorem ren_noteL (σ : Nat → Nat) (n : Note) : renL σ (noteL n) = noteL n := by simp [noteL]
@[simp] theorem ren_noteA (σ : Nat → Nat) (n : Note) : ren σ (noteA n) = noteA n := by simp [noteA]
end Go.AM.S
