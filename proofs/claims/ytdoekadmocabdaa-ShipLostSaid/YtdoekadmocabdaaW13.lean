/- A part of the proof: lemmas. -/
import Derived.Test.YtdoekadmocabdaaW12
set_option linter.unusedVariables false
set_option linter.unusedSimpArgs false
set_option maxRecDepth 100000
set_option maxHeartbeats 4000000
namespace Go.AM.S
open Go Go.AM

def oldOf (l : List Entry) (i : Nat) : Int := if i = 0 then 0 else (l.getD (i - 1) default).epoch

theorem row_lsn {l : List Entry} (h : RowOk l) : ∀ i, i < l.length → (l.getD i default).lsn = firstL l + i := by
  intro i
  induction i with
  | zero =>
    intro hi
    cases l with
    | nil => simp at hi
    | cons e l => simp [firstL]
  | succ i ih =>
    intro hi
    rw [h.lsn i hi, ih (by omega)]
    omega

theorem first_pos {l : List Entry} (h : RowOk l) : 0 < firstL l := by
  cases l with
  | nil => simp [firstL]
  | cons e l => exact (h.all e (by simp)).l0

theorem last_eq {l : List Entry} (h : RowOk l) (h0 : 0 < l.length) : lastL l = firstL l + l.length - 1 := by
  have h1 := row_lsn h (l.length - 1) (by omega)
  unfold lastL
  rw [List.getLast?_eq_getElem?]
  rw [List.getD_eq_getElem?_getD, List.getElem?_eq_getElem (by omega)] at h1
  rw [List.getElem?_eq_getElem (by omega)]
  simp at h1 ⊢
  omega

@[simp] theorem ren_ents (σ : Nat → Nat) (l : List Entry) : ren σ (ents l) = ents l := by simp [ents]
@[simp] theorem fz_ents (k s n' : Nat) (f : Nat → Nat → AV) (l : List Entry) : fz k s n' f (ents l) = ents l := by simp [ents]

theorem sSend (l : List Entry) (h : RowOk l) (hl : l.length < 1000) (ep : Int) (i : Nat) (hi : i < l.length) (hep : (l.getD i default).epoch ≤ ep) (hep1 : ep < 4294967296) (hi0 : i = 0 → firstL l = 1) :
    ASpec Go.Proofs.Try.prog 10 [ents l, .int .u32 ep, .int .u64 (firstL l + i)] [] (fun r h => r = .tup [noteA (shipN ep (oldOf l i) (firstL l + i - 1) (enc (l.getD i default))), .bool true] ∧ h = []) := by
  refine spec10 ?_ (by simp)
  have hg : l.getD i default = l[i] := by simp [hi]
  have hv : Valid l[i] := h.all _ (List.getElem_mem hi)
  have hf := first_pos h
  have hla := last_eq h (by omega)
  have hlsn := row_lsn h i hi
  rw [hg] at hlsn hep
  have g1 := hv.l1
  have g2 := hv.e0
  have n1 : ¬ ep = 0 := by omega
  have n2 : ¬ firstL l + i < firstL l := by omega
  have n3 : ¬ lastL l < firstL l + i := by omega
  have n4 : ¬ ((i : Int) < 0) := by omega
  have n5 : firstL l + (i:Int) = firstL l → firstL l + i = 1 := fun he => by have := hi0 (by omega); omega
  have n6 : firstL l + (i:Int) ≤ lastL l := by omega
  simp (maxSteps := 10000000) (implicitDefEqProofs := false) [c10, ents]
  refine AC.plain [ents l] (sShipRow l h hl) (by simp [ents]) ?_
  simp (maxSteps := 10000000) (implicitDefEqProofs := false) [n1]
  refine AC.plain [ents l] (sFirst l) (by simp [ents]) ?_
  simp (maxSteps := 10000000) (implicitDefEqProofs := false) [n2, n4]
  refine AC.plain [ents l] (sLast l hl) (by simp [ents]) ?_
  simp (maxSteps := 10000000) (implicitDefEqProofs := false) [n3]
  refine AC.plain [ents l] (sFirst l) (by simp [ents]) ?_
  have w1 : IntKind.u64.wrap (i : Int) = i := IntWalk.u64_in _ (by omega)
  have w2 : IntKind.u64.wrap (firstL l + i - 1) = firstL l + i - 1 := IntWalk.u64_in _ (by omega)
  have w0 : IntKind.u64.wrap 0 = 0 := IntWalk.u64_in _ (by omega)
  have w3 : firstL l + (i : Int) - firstL l = i := by omega
  have hent : AVle (.agg ((List.range 11).map fun q => entF l i (0 + q))) (ent l[i]) := by
    have : (List.range 11).map (fun q => entF l i (0 + q)) = entL l[i] := by
      simp only [Nat.zero_add]; rw [entF_all, hg]
    rw [this]; exact AVle.refl _
  have nc : ¬ ep < l[i].epoch := by omega
  by_cases h0 : i = 0
  · subst h0
    have hf1 : firstL l = 1 := hi0 rfl
    simp (maxSteps := 10000000) (implicitDefEqProofs := false) [hf1]
    refine AC.plain [ents l] (sFirst l) (by simp [ents]) ?_
    simp (maxSteps := 10000000) (implicitDefEqProofs := false) [hf1, w0, hi, entL]
    refine AC.plain [ent l[0]] (sPut40 _ hv) (by simp [ent, entL]) ?_
    simp (maxSteps := 10000000) (implicitDefEqProofs := false) [w0]
    refine AC.plain [ents l, .int .u64 0] (sAt0 l) (by simp [ents]) ?_
    simp (maxSteps := 10000000) (implicitDefEqProofs := false) [w0, nc]
    refine AC.plain [noteA (shipN ep 0 0 (enc l[0]))] (sNoteCheck ep 0 0 (enc l[0]) (enc_len _ hv)) (by simp [noteA, noteL, shipN]; exact AVle.agg (by simp)) ?_
    simp (maxSteps := 10000000) (implicitDefEqProofs := false)
    exact Ent.map [] (idn rfl) (by simp) (by simp) (by simp) (by simp [noteA, noteL, shipN, oldOf]; exact AVle.tup (by simp; exact AVle.agg (by simp)))
  · have h1 : ¬ (i : Int) = 0 := by omega
    have h2 : ¬ firstL l + (i : Int) = firstL l := by omega
    obtain ⟨p, hp⟩ : ∃ p, i = p + 1 := ⟨i - 1, by omega⟩
    have hold : oldOf l i = (l.getD p default).epoch := by unfold oldOf; rw [if_neg h0, hp]; rfl
    simp (maxSteps := 10000000) (implicitDefEqProofs := false) [h2]
    refine AC.plain [ents l] (sFirst l) (by simp [ents]) ?_
    simp (maxSteps := 10000000) (implicitDefEqProofs := false) [w1, w3, hi, entL]
    refine AC.plain [ent l[i]] (sPut40 _ hv) (by simp [ent, entL]) ?_
    simp (maxSteps := 10000000) (implicitDefEqProofs := false) [w2]
    refine AC.plain [ents l, .int .u64 (firstL l + i - 1)] (sAt l p (firstL l + i - 1) (by omega) (by omega) (by omega) hl (by omega)) (by simp [ents]) ?_
    rw [← hold]
    simp (maxSteps := 10000000) (implicitDefEqProofs := false) [w2, nc]
    refine AC.plain [noteA (shipN ep (oldOf l i) (firstL l + i - 1) (enc l[i]))] (sNoteCheck _ _ _ _ (enc_len _ hv)) (by simp [noteA, noteL, shipN]; exact AVle.agg (by simp)) ?_
    simp (maxSteps := 10000000) (implicitDefEqProofs := false)
    exact Ent.map [] (idn rfl) (by simp) (by simp) (by simp) (by simp [noteA, noteL, shipN]; exact AVle.tup (by simp; exact AVle.agg (by simp)))

/-- Nothing more is to be sent. -/
theorem sSendNone (l : List Entry) (h : RowOk l) (hl : l.length < 1000) (ep nx : Int) (hep : 0 < ep) (hn : firstL l ≤ nx) (hnx : lastL l < nx) :
    ASpec Go.Proofs.Try.prog 10 [ents l, .int .u32 ep, .int .u64 nx] [] (fun r h => r = .tup [noteA {}, .bool false] ∧ h = []) := by
  refine spec10 ?_ (by simp)
  have n1 : ¬ ep = 0 := by omega
  have n2 : ¬ nx < firstL l := by omega
  simp (maxSteps := 10000000) (implicitDefEqProofs := false) [c10, ents]
  refine AC.plain [ents l] (sShipRow l h hl) (by simp [ents]) ?_
  simp (maxSteps := 10000000) (implicitDefEqProofs := false) [n1]
  refine AC.plain [ents l] (sFirst l) (by simp [ents]) ?_
  simp (maxSteps := 10000000) (implicitDefEqProofs := false) [n2]
  refine AC.plain [ents l] (sLast l hl) (by simp [ents]) ?_
  simp (maxSteps := 10000000) (implicitDefEqProofs := false) [hnx]
  exact Ent.map [] (idn rfl) (by simp) (by simp) (by simp) (by simp [noteA, noteL]; exact AVle.tup (by simp; exact AVle.agg (by simp)))
end Go.AM.S
