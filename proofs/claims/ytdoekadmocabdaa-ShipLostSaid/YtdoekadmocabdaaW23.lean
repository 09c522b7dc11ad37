/- A part of the proof: lemmas. -/
import Derived.Test.YtdoekadmocabdaaW22
set_option linter.unusedVariables false
set_option linter.unusedSimpArgs false
set_option maxRecDepth 100000
set_option maxHeartbeats 4000000
namespace Go.AM.S
open Go Go.AM

theorem bytes_nil : bytes [] := fun x hx => by cases hx
theorem RowOk.b {l : List Entry} (h : RowOk l) : RowB l := by
  intro e he
  rcases (h.all e he).kinds with ⟨_, _, h1, h2⟩ | ⟨_, _, _, _, _, _, h1, h2⟩
  · rw [h1, h2]; exact ⟨bytes_nil, bytes_nil⟩
  · exact ⟨h1, h2⟩

theorem takeL_sn (l : List Entry) (sn sn' ep old lsn : Int) (e : Entry) (h : ¬ ep < sn) (h' : ¬ ep < sn') : takeL l sn ep old lsn e = takeL l sn' ep old lsn e := by
  unfold takeL
  rw [if_neg h, if_neg h']

theorem taken_again {X l : List Entry} (hX : RowOk X) (hXf : firstL X = 1) (g : Good X l) (i : Nat) (hi : i < X.length) (sn ep : Int) (hsn : ¬ ep < sn) (r : List Entry × Int × Note) (hr : r = takeL l sn ep (oldOf X i) i (X.getD i default)) :
    takeL r.1 ep ep (oldOf X i) i (X.getD i default) = (r.1, ep, r.2.2) := by
  have t := taken hX hXf g i hi sn ep hsn
  rw [← hr] at t
  have same : r.1 = l → r.2.1 = ep → takeL r.1 ep ep (oldOf X i) i (X.getD i default) = (r.1, ep, r.2.2) := by
    intro h1 h2
    rw [h1, takeL_sn l ep sn ep _ _ _ (by omega) hsn, ← hr]
    obtain ⟨r1, r2, r3⟩ := r
    simp only at h1 h2
    subst h1; subst h2; rfl
  cases t with
  | back q h h0 hq => exact same (by rw [h]) (by rw [h])
  | stay h hl hs => exact same (by rw [h]) (by rw [h])
  | put h hl hc =>
    rw [h]
    have g2 := good_take hX hXf (i + 1)
    have hlen : (X.take (i + 1)).length = i + 1 := by simp; omega
    have hlast := last_len g2.ok g2.first
    have hlsn := row_lsn hX i hi
    rw [hXf] at hlsn
    show takeL (X.take (i + 1)) ep ep (oldOf X i) i (X.getD i default) = (X.take (i + 1), ep, noteAck ep (i + 1))
    unfold takeL
    rw [if_neg (by omega), hlast, hlen, if_neg (by omega), g2.first, if_neg (by omega)]
    have e1 : ((i : Int) - 1).toNat = i - 1 := by omega
    have e2 : ((i : Int) - (1 - 1)).toNat = i := by omega
    rw [e1, if_neg ?_]
    · simp only [e2]
      rw [if_pos ⟨by omega, by rw [getD_take (by omega)]⟩]
      rw [show (X.getD i default).lsn = (i : Int) + 1 by omega]
    · intro ⟨h1, h2⟩
      apply h2
      rw [getD_take (by omega)]
      unfold oldOf
      rw [if_neg (by omega)]

theorem taken_note {X l : List Entry} {ep : Int} {i : Nat} {r : List Entry × Int × Note} (t : Taken X l ep i r) : r.2.2.key = [] ∧ r.2.2.data = [] := by
  cases t with
  | back q h => subst h; exact ⟨rfl, rfl⟩
  | stay h => subst h; exact ⟨rfl, rfl⟩
  | put h => subst h; exact ⟨rfl, rfl⟩

theorem good_rows (c a b : List Int) : Good (rowsX c a) (rowsY c b) := ⟨rowsY_ok c b, rowsY_first c b, lmp_rows c a b⟩

theorem sStale (c a b : List Int) (fr seen : Int) (hc : bytes c) (ha : bytes a) (hb : bytes b) (hcl : c.length < 9223372036854775808) (hal : a.length < 9223372036854775808) (hbl : b.length < 9223372036854775808) (hfr : 0 ≤ fr) :
    ASpec Go.Proofs.Try.prog 3 [.agg [bs c, bs a, bs b], .int .u64 fr, .int .u32 seen] [] (fun r h => r = .bool true ∧ h = []) := by
  refine spec3 ?_ (by simp)
  have hX := rowsX_ok c a
  have hXf := rowsX_first c a
  have hXl := rowsX_len c a
  have hE := rowsE_bd c a b
  have hXe : ∀ i, i < (rowsX c a).length → ((rowsX c a).getD i default).epoch ≤ rowsE c a b := fun i hi => by
    have := rowsX_epoch c a b i (by omega)
    omega
  have g := good_rows c a b
  have hYl := rowsY_len c b
  have nc := nn_le c
  have na := nn_le a
  have nb := nn_le b
  simp (maxSteps := 10000000) (implicitDefEqProofs := false) [c3]
  refine AC.plain [.agg [bs c, bs a, bs b]] (sRows c a b hc ha hb hcl hal hbl) (by simp) ?_
  simp (maxSteps := 10000000) (implicitDefEqProofs := false) [ents]
  generalize rowsX c a = X at *
  generalize rowsY c b = Y at *
  generalize rowsE c a b = E at *
  by_cases h0 : X = []
  · simp (maxSteps := 10000000) (implicitDefEqProofs := false) [h0]
    refine AC.plain [] sKnown (by simp) ?_
    simp (maxSteps := 10000000) (implicitDefEqProofs := false)
    exact Ent.map [] (idn rfl) (by simp) (by simp) (by simp) (by simp)
  · have hp : 0 < X.length := List.length_pos_iff.2 h0
    have h0' : ¬ (X.length : Int) = 0 := by omega
    obtain ⟨i, hi⟩ : ∃ i : Nat, fr % (X.length : Int) = i := ⟨(fr % (X.length : Int)).toNat, by have := Int.emod_nonneg fr h0'; omega⟩
    have hil : i < X.length := by have := Int.emod_lt_of_pos fr (show (0 : Int) < X.length by omega); omega
    have w0 : IntKind.u64.wrap (X.length : Int) = X.length := IntWalk.u64_in _ (by omega)
    have w1 : fr.tmod (X.length : Int) = i := by rw [tmod_pos hfr, hi]
    have w2 : IntKind.u64.wrap (1 + (i : Int)) = 1 + i := IntWalk.u64_in _ (by omega)
    simp (maxSteps := 10000000) (implicitDefEqProofs := false) [h0, w0, w1, w2]
    refine AC.plain [ents X, .int .u32 E, .int .u64 (1 + i)] (sSendX hX hXf (by omega) i hil E (hXe i hil) (by omega)) (by simp [ents]) ?_
    simp (maxSteps := 10000000) (implicitDefEqProofs := false) [noteA, noteL, shipN]
    refine AC.plain [ents Y, .int .u32 seen, noteA (shipN E (oldOf X i) i (enc (X.getD i default)))] (sTakeX hX hXf g (by omega) i hil seen E (hXe i hil) (by omega)) (by simp [ents, noteA, noteL, shipN]) ?_
    by_cases hsn : E < seen
    · have hT : takeL Y seen E (oldOf X i) i (X.getD i default) = (Y, seen, noteStale seen) := by unfold takeL; rw [if_pos hsn]
      rw [hT]
      simp (maxSteps := 10000000) (implicitDefEqProofs := false) [noteA, noteL, noteStale, hsn, ents]
      refine AC.plain [ents Y, ents Y] (sSames Y Y g.ok.b g.ok.b (by omega)) (by simp [ents]) ?_
      simp (maxSteps := 10000000) (implicitDefEqProofs := false)
      refine AC.plain [] sKnown (by simp) ?_
      simp (maxSteps := 10000000) (implicitDefEqProofs := false)
      exact Ent.map [] (idn rfl) (by simp) (by simp) (by simp) (by simp)
    · have ht := taken hX hXf g i hil seen E hsn
      have hag := taken_again hX hXf g i hil seen E hsn _ rfl
      generalize takeL Y seen E (oldOf X i) i (X.getD i default) = r at *
      have hf := ht.facts hX hXf g hil
      have hn := taken_note ht
      obtain ⟨r1, r2, r3⟩ := r
      obtain ⟨f1, f2, f3, f4, f5⟩ := hf
      simp only at f1 f2 f3 hn hag
      subst f2
      simp (maxSteps := 10000000) (implicitDefEqProofs := false) [noteA, noteL, hsn, ents]
      have hbn : bytes r3.key ∧ bytes r3.data := by rw [hn.1, hn.2]; exact ⟨bytes_nil, bytes_nil⟩
      have hr1 : r1.length < 100 := by omega
      refine AC.plain [ents r1, .int .u32 r2, noteA (shipN r2 (oldOf X i) i (enc (X.getD i default)))] (sTakeX hX hXf f1 hr1 i hil r2 r2 (hXe i hil) (by omega)) (by simp [ents, noteA, noteL, shipN]) ?_
      rw [hag]
      simp (maxSteps := 10000000) (implicitDefEqProofs := false) [noteA, noteL, ents]
      refine AC.plain [ents r1, ents r1] (sSames r1 r1 f1.ok.b f1.ok.b (by omega)) (by simp [ents]) ?_
      simp (maxSteps := 10000000) (implicitDefEqProofs := false)
      refine AC.plain [noteA r3, noteA r3] (sSameN r3 r3 hbn hbn) (by simp [noteA, noteL]) ?_
      simp (maxSteps := 10000000) (implicitDefEqProofs := false)
      refine AC.plain [] sKnown (by simp) ?_
      simp (maxSteps := 10000000) (implicitDefEqProofs := false)
      exact Ent.map [] (idn rfl) (by simp) (by simp) (by simp) (by simp)
end Go.AM.S
