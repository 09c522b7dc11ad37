/- A part of the proof: lemmas. -/
import Derived.Test.YtdoekadmocabdaaW14
set_option linter.unusedVariables false
set_option linter.unusedSimpArgs false
set_option maxRecDepth 100000
set_option maxHeartbeats 4000000
namespace Go.AM.S
open Go Go.AM

/-- What a standby does with a note that brings 'e'. -/
def takeL (l : List Entry) (sn ep old lsn : Int) (e : Entry) : List Entry × Int × Note :=
  if ep < sn then (l, sn, noteStale sn)
  else if lastL l < lsn then (l, ep, noteBack ep (lastL l))
  else if lsn < firstL l - 1 then (l, ep, noteAck ep (firstL l - 1))
  else if firstL l ≤ lsn ∧ (l.getD (lsn - firstL l).toNat default).epoch ≠ old then (l, ep, noteBack ep (behindL l old lsn))
  else
    let k := (lsn - (firstL l - 1)).toNat
    if k < l.length ∧ enc (l.getD k default) = enc e then (l, ep, noteAck ep e.lsn) else (l.take k ++ [e], ep, noteAck ep e.lsn)

theorem lastL_nil : lastL [] = 0 := rfl
theorem firstL_nil : firstL [] = 1 := rfl

theorem first_lt {l : List Entry} (h : RowOk l) : firstL l < 18446744073709551616 := by
  cases l with
  | nil => simp [firstL]
  | cons e l => exact (h.all e (by simp)).l1

theorem sShipTake (l : List Entry) (h : RowOk l) (hl : l.length < 900) (sn ep old lsn : Int) (e : Entry) (hs : ShipOk ep old lsn e)
    (hap : ∀ k, k ≤ l.length → lsn = firstL l - 1 + k → (k = 0 ∨ ∃ i, k = i + 1 ∧ (l.getD i default).epoch = old) → RowOk (l.take k ++ [e])) :
    ASpec Go.Proofs.Try.prog 11 [ents l, .int .u32 sn, noteA (shipN ep old lsn (enc e))] [] (fun r h => r = .tup [ents (takeL l sn ep old lsn e).1, .int .u32 (takeL l sn ep old lsn e).2.1, noteA (takeL l sn ep old lsn e).2.2, .int .i64 0] ∧ h = []) := by
  have hf1 := first_lt h
  have hf := first_pos h
  have g0 := hs.v.l0
  have g2 := hs.l
  by_cases hc : ep < sn
  · have : takeL l sn ep old lsn e = (l, sn, noteStale sn) := by unfold takeL; rw [if_pos hc]
    rw [this]; exact sTake1 l h hl sn ep old lsn e hs hf1 hc
  by_cases hc2 : lastL l < lsn
  · have : takeL l sn ep old lsn e = (l, ep, noteBack ep (lastL l)) := by unfold takeL; rw [if_neg hc, if_pos hc2]
    rw [this]; exact sTake2 l h hl sn ep old lsn e hs hf1 hc hc2
  by_cases hc3 : lsn < firstL l - 1
  · have : takeL l sn ep old lsn e = (l, ep, noteAck ep (firstL l - 1)) := by unfold takeL; rw [if_neg hc, if_neg hc2, if_pos hc3]
    rw [this]; exact sTake3 l h hl sn ep old lsn e hs hf1 hc hc2 hc3
  obtain ⟨k, hkl⟩ : ∃ k : Nat, lsn = firstL l - 1 + k := ⟨(lsn - (firstL l - 1)).toNat, by omega⟩
  have hkk : (lsn - (firstL l - 1)).toNat = k := by omega
  have hk : k ≤ l.length := by
    by_cases h0 : 0 < l.length
    · have := last_eq h h0; omega
    · have : l = [] := List.eq_nil_of_length_eq_zero (by omega)
      subst this
      simp [lastL_nil, firstL_nil] at *
      omega
  by_cases hc4 : firstL l ≤ lsn ∧ (l.getD (lsn - firstL l).toNat default).epoch ≠ old
  · have : takeL l sn ep old lsn e = (l, ep, noteBack ep (behindL l old lsn)) := by unfold takeL; rw [if_neg hc, if_neg hc2, if_neg hc3, if_pos hc4]
    rw [this]
    exact sTake4 l h hl sn ep old lsn e hs hf1 hc hc2 hc4.1 (lsn - firstL l).toNat (by omega) (by omega) hc4.2
  have hT : takeL l sn ep old lsn e = if k < l.length ∧ enc (l.getD k default) = enc e then (l, ep, noteAck ep e.lsn) else (l.take k ++ [e], ep, noteAck ep e.lsn) := by
    unfold takeL; rw [if_neg hc, if_neg hc2, if_neg hc3, if_neg hc4]; simp only [hkk]
  rw [hT]
  by_cases hk0 : k = 0
  · have hrow := hap k hk hkl (.inl hk0)
    by_cases hlt : k < l.length
    · by_cases hsame : enc (l.getD k default) = enc e
      · rw [if_pos ⟨hlt, hsame⟩]
        exact sTake5a l h hl sn ep old lsn e hs hf1 hc hc2 k hk hkl hk0 hlt hsame
      · rw [if_neg fun h => hsame h.2]
        exact sTake6a l h hl sn ep old lsn e hs hf1 hc hc2 k hk hkl hk0 hlt hsame hrow
    · obtain rfl : k = l.length := by omega
      rw [if_neg fun h => hlt h.1]
      rw [List.take_length] at hrow ⊢
      exact sTake7a l h hl sn ep old lsn e hs hf1 hc hc2 hkl hk0 hrow
  · obtain ⟨i, hi⟩ : ∃ i, k = i + 1 := ⟨k - 1, by omega⟩
    have hix : (lsn - firstL l).toNat = i := by omega
    have hat : (l.getD i default).epoch = old := by
      rw [hix] at hc4
      by_cases hh : (l.getD i default).epoch = old
      · exact hh
      · exact absurd ⟨by omega, hh⟩ hc4
    have hrow := hap k hk hkl (.inr ⟨i, hi, hat⟩)
    by_cases hlt : k < l.length
    · by_cases hsame : enc (l.getD k default) = enc e
      · rw [if_pos ⟨hlt, hsame⟩]
        exact sTake5b l h hl sn ep old lsn e hs hf1 hc hc2 k hk hkl i hi hat hlt hsame
      · rw [if_neg fun h => hsame h.2]
        exact sTake6b l h hl sn ep old lsn e hs hf1 hc hc2 k hk hkl i hi hat hlt hsame hrow
    · obtain rfl : k = l.length := by omega
      rw [if_neg fun h => hlt h.1]
      rw [List.take_length] at hrow ⊢
      exact sTake7b l h hl sn ep old lsn e hs hf1 hc hc2 hkl i hi hat hrow
end Go.AM.S
