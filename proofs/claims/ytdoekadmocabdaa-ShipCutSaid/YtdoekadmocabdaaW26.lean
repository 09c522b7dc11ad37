/- A part of the proof: lemmas. -/
import Derived.Test.YtdoekadmocabdaaW25
set_option linter.unusedVariables false
set_option linter.unusedSimpArgs false
set_option maxRecDepth 100000
set_option maxHeartbeats 4000000
namespace Go.AM.S
open Go Go.AM

theorem sCut (c a b : List Int) (gone : Int) (hc : bytes c) (ha : bytes a) (hb : bytes b) (hcl : c.length < 9223372036854775808) (hal : a.length < 9223372036854775808) (hbl : b.length < 9223372036854775808) :
    ASpec Go.Proofs.Try.prog 5 [.agg [bs c, bs a, bs b], .int .i64 gone] [] (fun r h => r = .bool true ∧ h = []) := by
  refine spec5 ?_ (by simp)
  have hX := rowsX_ok c a
  have hXf := rowsX_first c a
  have hXl := rowsX_len c a
  have hE := rowsE_bd c a b
  have hXe : ∀ i, i < (rowsX c a).length → ((rowsX c a).getD i default).epoch ≤ rowsE c a b := fun i hi => by
    have := rowsX_epoch c a b i (by omega)
    omega
  have nc := nn_le c
  have na := nn_le a
  simp (maxSteps := 10000000) (implicitDefEqProofs := false) [c5]
  refine AC.plain [.agg [bs c, bs a, bs b]] (sRows c a b hc ha hb hcl hal hbl) (by simp) ?_
  simp (maxSteps := 10000000) (implicitDefEqProofs := false) [ents]
  generalize rowsX c a = X at *
  generalize rowsY c b = Y at *
  generalize rowsE c a b = E at *
  by_cases h0 : (X.length : Int) < 2
  · simp (maxSteps := 10000000) (implicitDefEqProofs := false) [h0]
    refine ⟨?_, fun h => absurd h (by omega)⟩
    refine AC.plain [] sKnown (by simp) ?_
    simp (maxSteps := 10000000) (implicitDefEqProofs := false)
    exact Ent.map [] (idn rfl) (by simp) (by simp) (by simp) (by simp)
  · have w0 : IntKind.i64.wrap ((X.length : Int) - 1) = X.length - 1 := IntWalk.i64_in _ (by omega)
    have w1 : IntKind.u64.wrap ((X.length : Int) - 1) = X.length - 1 := IntWalk.u64_in _ (by omega)
    have hn1 : ¬ (X.length : Int) - 1 = 0 := by omega
    obtain ⟨p, hp⟩ : ∃ p : Nat, (IntKind.u64.wrap gone).tmod ((X.length : Int) - 1) = p := by
      rw [tmod_pos (u64_bd _)]
      exact ⟨(IntKind.u64.wrap gone % ((X.length : Int) - 1)).toNat, by have := Int.emod_nonneg (IntKind.u64.wrap gone) hn1; omega⟩
    have hpl : p + 1 < X.length := by
      have := Int.emod_lt_of_pos (IntKind.u64.wrap gone) (show (0 : Int) < (X.length : Int) - 1 by omega)
      rw [tmod_pos (u64_bd _)] at hp
      omega
    have w2 : IntKind.i64.wrap (p : Int) = p := IntWalk.i64_in _ (by omega)
    have w3 : IntKind.i64.wrap (1 + (p : Int)) = 1 + p := IntWalk.i64_in _ (by omega)
    have w4 : IntKind.i64.wrap (1 + (p : Int) - 1) = p := by rw [IntWalk.i64_in _ (by omega)]; omega
    have w5 : IntKind.i64.wrap (1 + (p : Int) + 1) = p + 2 := by rw [IntWalk.i64_in _ (by omega)]; omega
    have w6 : IntKind.u64.wrap ((p : Int) + 2) = p + 2 := IntWalk.u64_in _ (by omega)
    have s1 : (p : Int) ≤ 1 + p := by omega
    have s2 : 1 + (p : Int) ≤ X.length := by omega
    have s3 : (1 + (p : Int)).toNat - p = 1 := by omega
    simp (maxSteps := 10000000) (implicitDefEqProofs := false) [h0, w0, w1, hn1, hp, w2, w3, w4, w5, w6, s1, s2, s3]
    refine fun _ => ?_
    refine AL.loop hmix (D := Nat) (fun m => p + m + 1 ≤ X.length) (fun m => ⟨mkT 126 [(4, .bool false), (5, ents X), (7, .int .u32 E), (8, .int .i64 (1 + p)), (9, ents ((X.drop p).take (m + 1))), (10, .int .u64 (p + m + 2)), (11, .int .i64 m)], []⟩) (fun m => X.length - m) 0 (by omega) ?_ ?_
    · refine Ent.map [] (idn rfl) (by simp) (by simp) (by simp) ?_
      simp [ents]
      refine AVles_mkT ?_
      simp
      refine AVle.psl (by omega) fun i j hi hj => ?_
      obtain rfl : i = 0 := by omega
      rw [entF_take _ _ _ _ (by omega), entF_drop]
      exact AVle.refl _
    · intro F hF m hm
      have w7 : IntKind.i64.wrap (2 * (X.length : Int)) = 2 * X.length := IntWalk.i64_in _ (by omega)
      have w8 : (m : Int) < 2 * X.length := by omega
      have w9 : IntKind.i64.wrap ((m : Int) + 1) = m + 1 := IntWalk.i64_in _ (by omega)
      have gd := (hX.drop p).take (m + 1)
      have hlen : ((X.drop p).take (m + 1)).length = m + 1 := by simp; omega
      simp (maxSteps := 10000000) (implicitDefEqProofs := false) [ents, w7, w8]
      by_cases hlt : p + m + 1 < X.length
      · refine AC.plain [ents X, .int .u32 E, .int .u64 (1 + (p + (m + 1) : Nat))] (sSendX hX hXf (by omega) (p + (m + 1)) (by omega) E (hXe _ (by omega)) (by omega)) (by simp [ents]; exact AVle.int (by omega)) ?_
        obtain ⟨c1, c2⟩ := cut_step hX hXf p (m + 1) (by omega) (by omega) E (by omega)
        have hso := ship_ok hX hXf (p + (m + 1)) (by omega) E (hXe _ (by omega)) (by omega)
        generalize hi : p + (m + 1) = i at *
        simp (maxSteps := 10000000) (implicitDefEqProofs := false) [noteA, noteL, shipN]
        refine AC.plain [ents ((X.drop p).take (m + 1)), .int .u32 1, noteA (shipN E (oldOf X i) i (enc (X.getD i default)))] (sShipTake _ gd (by omega) 1 E (oldOf X i) i (X.getD i default) hso c2) (by simp [ents, noteA, noteL, shipN]) ?_
        rw [c1]
        simp (maxSteps := 10000000) (implicitDefEqProofs := false) [noteA, noteL, noteAck, ents]
        refine AC.plain [.int .u64 (p + m + 2), noteA (noteAck E (i + 1))] (sNext _ (noteAck E (i + 1)) (by simp [noteAck]; omega) (by simp [noteAck]; omega)) (by simp [noteA, noteL, noteAck]) ?_
        simp (maxSteps := 10000000) (implicitDefEqProofs := false) [w9]
        have hv : (if (noteAck E ((i : Int) + 1)).kind = 2 then max ((p : Int) + m + 2) ((noteAck E ((i : Int) + 1)).lsn + 1) else if (noteAck E ((i : Int) + 1)).kind = 3 then min ((p : Int) + m + 2) ((noteAck E ((i : Int) + 1)).lsn + 1) else (p : Int) + m + 2) = p + (m + 1 : Nat) + 2 := by
          simp [noteAck]; omega
        rw [hv]
        refine ⟨m + 1, by omega, by omega, ?_⟩
        exact Ent.map [] (idn rfl) (by simp) (by simp) (by simp) (by simp; exact AVles_mkT (by simp))
      · have hla := last_eq hX (by omega)
        refine AC.plain [ents X, .int .u32 E, .int .u64 (p + m + 2)] (sSendNone X hX (by omega) E (p + m + 2) (by omega) (by omega) (by omega)) (by simp [ents]) ?_
        simp (maxSteps := 10000000) (implicitDefEqProofs := false) [noteA, noteL]
        rw [hF]
        simp (maxSteps := 10000000) (implicitDefEqProofs := false)
        have hl : (X.drop p).take (m + 1) = X.drop p := List.take_of_length_le (by simp; omega)
        have hmin : min (m + 1) (X.length - p) = X.length - p := by omega
        rw [hl, hmin]
        refine AC.plain [ents X, .int .u32 E, .int .u64 (1 + (0 : Nat))] (sSendX hX hXf (by omega) 0 (by omega) E (hXe _ (by omega)) (by omega)) (by simp [ents]) ?_
        obtain ⟨⟨q, c1⟩, c2⟩ := cut_old hX hXf p (by omega) E (by omega)
        have hso := ship_ok hX hXf 0 (by omega) E (hXe _ (by omega)) (by omega)
        simp (maxSteps := 10000000) (implicitDefEqProofs := false) [noteA, noteL, shipN]
        refine AC.plain [ents (X.drop p), .int .u32 1, noteA (shipN E (oldOf X 0) (0 : Nat) (enc (X.getD 0 default)))] (sShipTake _ (hX.drop p) (by simp; omega) 1 E (oldOf X 0) (0 : Nat) (X.getD 0 default) hso c2) (by simp [ents, noteA, noteL, shipN]) ?_
        rw [c1]
        simp (maxSteps := 10000000) (implicitDefEqProofs := false) [noteA, noteL, noteAck, ents]
        refine AC.plain [ents (X.drop p), ents (X.drop p)] (sSames _ _ (hX.drop p).b (hX.drop p).b (by simp; omega)) (by simp [ents]) ?_
        simp (maxSteps := 10000000) (implicitDefEqProofs := false) [w4]
        refine ⟨by omega, ?_⟩
        have hle : AVle (.psl 11 (X.length - p) fun i => entF X (p + i)) (.psl 11 (X.length - p) (entF (X.drop p))) := AVle.psl rfl fun i j hi hj => AVle.of_eq (entF_drop X p i j).symm
        refine AC.plain [ents (X.drop p), ents (X.drop p)] (sSames _ _ (hX.drop p).b (hX.drop p).b (by simp; omega)) (by simpa [ents] using hle) ?_
        simp (maxSteps := 10000000) (implicitDefEqProofs := false)
        refine AC.plain [] sKnown (by simp) ?_
        simp (maxSteps := 10000000) (implicitDefEqProofs := false)
        exact Ent.map [] (idn rfl) (by simp) (by simp) (by simp) (by simp)
end Go.AM.S
