/- A part of the proof: lemmas. -/
import Derived.Test.YtdoekadmocabdaaW23
set_option linter.unusedVariables false
set_option linter.unusedSimpArgs false
set_option maxRecDepth 100000
set_option maxHeartbeats 4000000
namespace Go.AM.S
open Go Go.AM

/-- Whole numbers that are only read. -/
def iF (l : List Int) : Nat → Nat → AV := fun i _ => .int .i64 (l.getD i 0)
def is (l : List Int) : AV := .psl 1 l.length (iF l)
theorem iF_app (l : List Int) (i j : Nat) : iF l i j = .int .i64 (l.getD i 0) := rfl
@[simp] theorem ren_iF (σ : Nat → Nat) (l : List Int) (i j : Nat) : ren σ (iF l i j) = iF l i j := by simp [iF]
@[simp] theorem ren_is (σ : Nat → Nat) (l : List Int) : ren σ (is l) = is l := by simp [is]

theorem u64_bd (x : Int) : 0 ≤ IntKind.u64.wrap x := by
  unfold IntKind.wrap
  simp [IntKind.signed, IntKind.bits]
  omega

/-- A state of the round. -/
structure LostD where
  i : Nat
  l : List Entry
  sn : Int

theorem sLost (c a b : List Int) (ps : List Int) (hc : bytes c) (ha : bytes a) (hb : bytes b) (hcl : c.length < 9223372036854775808) (hal : a.length < 9223372036854775808) (hbl : b.length < 9223372036854775808) (hps : ps.length < 9223372036854775808) :
    ASpec Go.Proofs.Try.prog 4 [.agg [bs c, bs a, bs b], is ps] [] (fun r h => r = .bool true ∧ h = []) := by
  refine spec4 ?_ (by simp)
  have hX := rowsX_ok c a
  have hXf := rowsX_first c a
  have hXl := rowsX_len c a
  have hE := rowsE_bd c a b
  have hXe : ∀ i, i < (rowsX c a).length → ((rowsX c a).getD i default).epoch ≤ rowsE c a b := fun i hi => by
    have := rowsX_epoch c a b i (by omega)
    omega
  have g := good_rows c a b
  have hYl := rowsY_len c b
  have nc := nn_le c
  have na := nn_le a
  have nb := nn_le b
  simp (maxSteps := 10000000) (implicitDefEqProofs := false) [c4, is]
  refine AC.plain [.agg [bs c, bs a, bs b]] (sRows c a b hc ha hb hcl hal hbl) (by simp) ?_
  simp (maxSteps := 10000000) (implicitDefEqProofs := false) [ents]
  generalize rowsX c a = X at *
  generalize rowsY c b = Y at *
  generalize rowsE c a b = E at *
  by_cases h0 : X = []
  · simp (maxSteps := 10000000) (implicitDefEqProofs := false) [h0]
    refine AC.plain [] sKnown (by simp) ?_
    simp (maxSteps := 10000000) (implicitDefEqProofs := false)
    exact Ent.map [] (idn rfl) (by simp) (by simp) (by simp) (by simp)
  · have hp : 0 < X.length := List.length_pos_iff.2 h0
    have h0' : ¬ (X.length : Int) = 0 := by omega
    simp (maxSteps := 10000000) (implicitDefEqProofs := false) [h0]
    refine AC.plain [ents X, ents Y] (sCommon X Y hX.b g.ok.b (by omega)) (by simp [ents]) ?_
    simp (maxSteps := 10000000) (implicitDefEqProofs := false)
    refine AL.loop hmix (D := LostD) (fun d => d.i ≤ ps.length ∧ Good X d.l ∧ d.l.length ≤ 40 ∧ d.sn ≤ E) (fun d => ⟨mkT 106 [(1, is ps), (4, .bool false), (5, ents X), (7, .int .u32 E), (8, ents d.l), (9, .int .u32 d.sn), (10, .int .i64 (commonL X d.l)), (11, .int .i64 d.i)], []⟩) (fun d => ps.length - d.i) ⟨0, Y, 1⟩ ⟨by simp, g, by simp only; omega, by simp only; omega⟩ ?_ ?_
    · exact Ent.map [] (idn rfl) (by simp) (by simp) (by simp) (by simp [is, ents]; exact AVles_mkT (by simp))
    · rintro F hF ⟨i, l, sn⟩ ⟨hi, gl, hll, hsn⟩
      simp only at hi gl hll hsn
      by_cases hil : i < ps.length ∧ i < 60
      · have h1 : i < ps.length := hil.1
        have h2 : (i : Int) < 60 := by omega
        have w0 : IntKind.u64.wrap (X.length : Int) = X.length := IntWalk.u64_in _ (by omega)
        obtain ⟨q, hq⟩ : ∃ q : Nat, (IntKind.u64.wrap ps[i]).tmod (X.length : Int) = q := by
          rw [tmod_pos (u64_bd _)]
          exact ⟨(IntKind.u64.wrap ps[i] % (X.length : Int)).toNat, by have := Int.emod_nonneg (IntKind.u64.wrap ps[i]) h0'; omega⟩
        have hql : q < X.length := by
          have := Int.emod_lt_of_pos (IntKind.u64.wrap ps[i]) (show (0 : Int) < X.length by omega)
          rw [tmod_pos (u64_bd _)] at hq
          omega
        have w2 : IntKind.u64.wrap (1 + (q : Int)) = 1 + q := IntWalk.u64_in _ (by omega)
        have w3 : IntKind.i64.wrap ((i : Int) + 1) = i + 1 := IntWalk.i64_in _ (by omega)
        simp (maxSteps := 10000000) (implicitDefEqProofs := false) [is, ents, iF_app, h1, h2, w0, hq, w2, h0]
        refine AC.plain [ents X, .int .u32 E, .int .u64 (1 + q)] (sSendX hX hXf (by omega) q hql E (hXe q hql) (by omega)) (by simp [ents]) ?_
        simp (maxSteps := 10000000) (implicitDefEqProofs := false) [noteA, noteL, shipN]
        refine AC.plain [ents l, .int .u32 sn, noteA (shipN E (oldOf X q) q (enc (X.getD q default)))] (sTakeX hX hXf gl (by omega) q hql sn E (hXe q hql) (by omega)) (by simp [ents, noteA, noteL, shipN]) ?_
        have ht := taken hX hXf gl q hql sn E (by omega)
        generalize takeL l sn E (oldOf X q) q (X.getD q default) = r at *
        obtain ⟨r1, r2, r3⟩ := r
        obtain ⟨f1, f2, f3, f4, f5, f6, f7, f8⟩ := ht.facts hX hXf gl hql
        simp only at f1 f2 f3 f4 f5 f6 f7 f8
        subst f2
        simp (maxSteps := 10000000) (implicitDefEqProofs := false) [noteA, noteL, ents]
        refine AC.plain [ents X, ents r1] (sCommon X r1 hX.b f1.ok.b (by omega)) (by simp [ents]) ?_
        have hcl1 := common_le X r1
        have w4 : IntKind.u64.wrap (commonL X r1 : Int) = commonL X r1 := IntWalk.u64_in _ (by omega)
        have n4 : ¬ commonL X r1 < commonL X l := by omega
        have end_ : ∃ d' : LostD, (d'.i ≤ ps.length ∧ Good X d'.l ∧ d'.l.length ≤ 40 ∧ d'.sn ≤ r2) ∧ ps.length - d'.i < ps.length - i ∧ d' = ⟨i + 1, r1, r2⟩ := ⟨⟨i + 1, r1, r2⟩, ⟨by simp only; omega, f1, by simp only; omega, by simp only; omega⟩, by simp only; omega, rfl⟩
        obtain ⟨d', hd1, hd2, rfl⟩ := end_
        rcases f8 with hk | hk
        · have n5 : ¬ (commonL X r1 : Int) < r3.lsn := by have := f5 hk; omega
          simp (maxSteps := 10000000) (implicitDefEqProofs := false) [n4, hk, w4, n5, w3]
          refine ⟨_, hd1, hd2, ?_⟩
          exact Ent.map [] (idn rfl) (by simp) (by simp) (by simp) (by simp; exact AVles_mkT (by simp))
        · have n6 : ¬ (q : Int) ≤ r3.lsn := by have := f6 hk; omega
          simp (maxSteps := 10000000) (implicitDefEqProofs := false) [n4, hk, w4, n6, w3]
          refine ⟨_, hd1, hd2, ?_⟩
          exact Ent.map [] (idn rfl) (by simp) (by simp) (by simp) (by simp; exact AVles_mkT (by simp))
      · have h2 : i < ps.length → ¬ (i : Int) < 60 := fun h => by omega
        simp (maxSteps := 10000000) (implicitDefEqProofs := false) [is, ents, h2]
        rw [hF]
        simp (maxSteps := 10000000) (implicitDefEqProofs := false)
        refine ⟨fun h3 h4 => absurd h4 (h2 h3), fun _ => ?_⟩
        refine AC.plain [] sKnown (by simp) ?_
        simp (maxSteps := 10000000) (implicitDefEqProofs := false)
        exact Ent.map [] (idn rfl) (by simp) (by simp) (by simp) (by simp)
end Go.AM.S
