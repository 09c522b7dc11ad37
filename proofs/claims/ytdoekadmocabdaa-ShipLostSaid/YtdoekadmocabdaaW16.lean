/- A part of the proof: lemmas. -/
import Derived.Test.YtdoekadmocabdaaW15
set_option linter.unusedVariables false
set_option linter.unusedSimpArgs false
set_option maxRecDepth 100000
set_option maxHeartbeats 4000000
namespace Go.AM.S
open Go Go.AM

theorem sSameE (e f : Entry) (he : bytes e.key ∧ bytes e.data) (hf : bytes f.key ∧ bytes f.data) : ASpec Go.Proofs.Try.prog 47 [ent e, ent f] [] (fun r h => r = .bool (decide (e = f)) ∧ h = []) := by
  refine spec47 ?_ (by simp)
  have k1 := isB_bf _ he.1
  have k2 := isB_bf _ he.2
  have k3 := isB_bf _ hf.1
  have k4 := isB_bf _ hf.2
  simp (maxSteps := 10000000) (implicitDefEqProofs := false) [c47, ent, entL, bs, tabI_bf]
  refine ⟨fun a1 a2 a3 a4 a5 a6 a7 a8 a9 => ⟨by simp [a1, a2, a3, a4, a5, a6, a7, a8, a9], k1⟩, fun a1 a2 a3 a4 a5 a6 a7 a8 a9 => ⟨by simp [a1, a2, a3, a4, a5, a6, a7, a8, a9], k3⟩, fun a1 a2 a3 a4 a5 a6 a7 a8 a9 a10 => ⟨by simp [a1, a2, a3, a4, a5, a6, a7, a8, a9, a10], k2⟩, fun a1 a2 a3 a4 a5 a6 a7 a8 a9 a10 => ⟨by simp [a1, a2, a3, a4, a5, a6, a7, a8, a9, a10], k4⟩, ?_⟩
  refine Ent.map [] (idn rfl) (by simp) (by simp) (by simp) ?_
  simp
  refine AVle.bool ?_
  rw [Bool.eq_iff_iff]
  cases e; cases f
  simp [and_assoc]

theorem sSameN (e f : Note) (he : bytes e.key ∧ bytes e.data) (hf : bytes f.key ∧ bytes f.data) : ASpec Go.Proofs.Try.prog 13 [noteA e, noteA f] [] (fun r h => r = .bool (decide (e = f)) ∧ h = []) := by
  refine spec13 ?_ (by simp)
  have k1 := isB_bf _ he.1
  have k2 := isB_bf _ he.2
  have k3 := isB_bf _ hf.1
  have k4 := isB_bf _ hf.2
  simp (maxSteps := 10000000) (implicitDefEqProofs := false) [c13, noteA, noteL, bs, tabI_bf]
  refine ⟨fun a1 a2 a3 a4 a5 a6 a7 a8 a9 => ⟨by simp [a1, a2, a3, a4, a5, a6, a7, a8, a9], k1⟩, fun a1 a2 a3 a4 a5 a6 a7 a8 a9 => ⟨by simp [a1, a2, a3, a4, a5, a6, a7, a8, a9], k3⟩, fun a1 a2 a3 a4 a5 a6 a7 a8 a9 a10 => ⟨by simp [a1, a2, a3, a4, a5, a6, a7, a8, a9, a10], k2⟩, fun a1 a2 a3 a4 a5 a6 a7 a8 a9 a10 => ⟨by simp [a1, a2, a3, a4, a5, a6, a7, a8, a9, a10], k4⟩, ?_⟩
  refine Ent.map [] (idn rfl) (by simp) (by simp) (by simp) ?_
  simp
  refine AVle.bool ?_
  rw [Bool.eq_iff_iff]
  cases e; cases f
  simp [and_assoc]

def RowB (l : List Entry) : Prop := ∀ e, e ∈ l → bytes e.key ∧ bytes e.data

theorem sNext (nx : Int) (n : Note) (h0 : 0 ≤ n.lsn) (h1 : n.lsn < 18446744073709551615) : ASpec Go.Proofs.Try.prog 15 [.int .u64 nx, noteA n] [] (fun r h => r = .int .u64 (if n.kind = 2 then max nx (n.lsn + 1) else if n.kind = 3 then min nx (n.lsn + 1) else nx) ∧ h = []) := by
  refine spec15 ?_ (by simp)
  have w1 : IntKind.u64.wrap (n.lsn + 1) = n.lsn + 1 := IntWalk.u64_in _ (by omega)
  simp (maxSteps := 10000000) (implicitDefEqProofs := false) [c15, noteA, noteL, h1, w1]
  refine ⟨fun h2 => ?_, fun h2 => ⟨fun h3 => ?_, fun h3 => ?_⟩⟩
  · refine Ent.map [] (idn rfl) (by simp) (by simp) (by simp) ?_
    simp [h2]
    exact AVle.int (by split <;> omega)
  · refine Ent.map [] (idn rfl) (by simp) (by simp) (by simp) ?_
    simp [h3]
    exact AVle.int (by split <;> omega)
  · refine Ent.map [] (idn rfl) (by simp) (by simp) (by simp) ?_
    simp [h2, h3]

theorem sCommit (sf ac : Int) : ASpec Go.Proofs.Try.prog 36 [.int .i64 1, .int .u64 sf, .int .u64 ac] [] (fun r h => r = .int .u64 (min sf ac) ∧ h = []) := by
  refine spec36 ?_ (by simp)
  simp (maxSteps := 10000000) (implicitDefEqProofs := false) [c36]
  refine Ent.map [] (idn rfl) (by simp) (by simp) (by simp) ?_
  simp
  exact AVle.int (by split <;> omega)

theorem list_eq {a b : List Entry} (hl : a.length = b.length) (h : ∀ j, j < a.length → a.getD j default = b.getD j default) : a = b := by
  refine List.ext_getElem hl fun i h1 h2 => ?_
  have := h i h1
  simpa [h1, h2] using this

theorem sSames (a b : List Entry) (ha : RowB a) (hb : RowB b) (hal : a.length < 1000) : ASpec Go.Proofs.Try.prog 12 [ents a, ents b] [] (fun r h => r = .bool (decide (a = b)) ∧ h = []) := by
  refine spec12 ?_ (by simp)
  by_cases hl : (a.length : Int) = b.length
  · have hl' : a.length = b.length := by omega
    simp (maxSteps := 10000000) (implicitDefEqProofs := false) [c12, ents, hl]
    refine AWP.loop (D := Nat) (fun i => i ≤ a.length ∧ ∀ j, j < i → a.getD j default = b.getD j default) (fun i => ⟨mkT 27 [(0, ents a), (1, ents b), (4, .bool false), (5, .int .i64 i)], []⟩) (fun i => a.length - i) 0 ⟨by omega, fun j hj => by omega⟩ ?_ ?_
    · exact Ent.map [] (idn rfl) (by simp) (by simp) (by simp) (by simp [ents]; exact AVles_mkT (by simp))
    · intro i ⟨hi, hlt⟩
      apply aexec_sound hmix; apply AX_of
      by_cases hil : i < a.length
      · have hib : i < b.length := by omega
        have hga : a.getD i default = a[i] := by simp [hil]
        have hgb : b.getD i default = b[i] := by simp [hib]
        have hlt' : ∀ j, j < i → a[j]?.getD default = b[j]?.getD default := fun j hj => by simpa using hlt j hj
        have hw : IntKind.i64.wrap ((i : Int) + 1) = i + 1 := IntWalk.i64_in _ (by omega)
        simp (maxSteps := 10000000) (implicitDefEqProofs := false) [ents, hil, hib, entL]
        refine AC.plain [ent a[i], ent b[i]] (sSameE a[i] b[i] (ha _ (List.getElem_mem hil)) (hb _ (List.getElem_mem hib))) (by simp [ent, entL]) ?_
        by_cases he : a[i] = b[i]
        · simp (maxSteps := 10000000) (implicitDefEqProofs := false) [he, hw]
          refine ⟨i + 1, ⟨by omega, fun j hj => ?_⟩, by omega, ?_⟩
          · by_cases hji : j = i
            · subst hji; simp [hil, hib, he]
            · exact hlt' j (by omega)
          · exact Ent.map [] (idn rfl) (by simp) (by simp) (by simp) (by simp; exact AVles_mkT (by simp))
        · have hne : ¬ a = b := fun h => he (by subst h; rfl)
          simp (maxSteps := 10000000) (implicitDefEqProofs := false) [he, hne]
          exact Ent.refl _ _
      · have hie : i = a.length := by omega
        have hab : a = b := list_eq hl' (fun j hj => hlt j (by omega))
        subst hab
        simp (maxSteps := 10000000) (implicitDefEqProofs := false) [ents, hil]
        exact Ent.refl _ _
  · have hne : ¬ a = b := fun h => hl (by rw [h])
    simp (maxSteps := 10000000) (implicitDefEqProofs := false) [c12, ents, hl, hne]
    exact Ent.refl _ _

/-- How many first ones are the same. -/
def commonL : List Entry → List Entry → Nat
  | x :: a, y :: b => if x = y then commonL a b + 1 else 0
  | _, _ => 0

theorem common_eq : ∀ (a b : List Entry) (i : Nat), i ≤ a.length → i ≤ b.length → (∀ j, j < i → a.getD j default = b.getD j default) → (i < a.length → i < b.length → a.getD i default ≠ b.getD i default) → commonL a b = i
  | [], b, i, h1, _, _, _ => by simp at h1; subst h1; simp [commonL]
  | x :: a, [], i, _, h2, _, _ => by simp at h2; subst h2; simp [commonL]
  | x :: a, y :: b, 0, _, _, _, h => by
    have := h (by simp) (by simp)
    simp at this
    simp [commonL, this]
  | x :: a, y :: b, i + 1, h1, h2, h3, h4 => by
    have h0 := h3 0 (by omega)
    simp at h0
    simp only [commonL, if_pos h0]
    rw [common_eq a b i (by simpa using h1) (by simpa using h2) (fun j hj => by simpa using h3 (j + 1) (by omega)) (fun ha hb => by simpa using h4 (by simpa using ha) (by simpa using hb))]

theorem sCommon (a b : List Entry) (ha : RowB a) (hb : RowB b) (hal : a.length < 1000) : ASpec Go.Proofs.Try.prog 14 [ents a, ents b] [] (fun r h => r = .int .i64 (commonL a b) ∧ h = []) := by
  refine spec14 ?_ (by simp)
  simp (maxSteps := 10000000) (implicitDefEqProofs := false) [c14, ents]
  refine AWP.loop (D := Nat) (fun i => i ≤ a.length ∧ i ≤ b.length ∧ ∀ j, j < i → a.getD j default = b.getD j default) (fun i => ⟨mkT 30 [(0, ents a), (1, ents b), (4, .int .i64 0), (5, .int .i64 i)], []⟩) (fun i => a.length - i) 0 ⟨by omega, by omega, fun j hj => by omega⟩ ?_ ?_
  · exact Ent.map [] (idn rfl) (by simp) (by simp) (by simp) (by simp [ents]; exact AVles_mkT (by simp))
  · intro i ⟨hi, hib', hlt⟩
    apply aexec_sound hmix; apply AX_of
    by_cases hil : i < a.length
    · by_cases hib : i < b.length
      · have hga : a.getD i default = a[i] := by simp [hil]
        have hgb : b.getD i default = b[i] := by simp [hib]
        have hlt' : ∀ j, j < i → a[j]?.getD default = b[j]?.getD default := fun j hj => by simpa using hlt j hj
        have hw : IntKind.i64.wrap ((i : Int) + 1) = i + 1 := IntWalk.i64_in _ (by omega)
        simp (maxSteps := 10000000) (implicitDefEqProofs := false) [ents, hil, hib, entL]
        refine AC.plain [ent a[i], ent b[i]] (sSameE a[i] b[i] (ha _ (List.getElem_mem hil)) (hb _ (List.getElem_mem hib))) (by simp [ent, entL]) ?_
        by_cases he : a[i] = b[i]
        · simp (maxSteps := 10000000) (implicitDefEqProofs := false) [he, hw]
          refine ⟨i + 1, ⟨by omega, by omega, fun j hj => ?_⟩, by omega, ?_⟩
          · by_cases hji : j = i
            · subst hji; simp [hil, hib, he]
            · exact hlt' j (by omega)
          · exact Ent.map [] (idn rfl) (by simp) (by simp) (by simp) (by simp; exact AVles_mkT (by simp))
        · have hc : commonL a b = i := common_eq a b i hi hib' hlt (fun _ _ => by rw [hga, hgb]; exact he)
          simp (maxSteps := 10000000) (implicitDefEqProofs := false) [he, hc]
          exact Ent.refl _ _
      · have hc : commonL a b = i := common_eq a b i hi hib' hlt (fun _ h => absurd h hib)
        simp (maxSteps := 10000000) (implicitDefEqProofs := false) [ents, hil, hib, hc]
        exact Ent.refl _ _
    · have hc : commonL a b = i := common_eq a b i hi hib' hlt (fun h _ => absurd h hil)
      simp (maxSteps := 10000000) (implicitDefEqProofs := false) [ents, hil, hc]
      exact Ent.refl _ _
end Go.AM.S
