/- A part of the proof: lemmas. -/
import Derived.Test.YtdoekadmocabdaaW11
set_option linter.unusedVariables false
set_option linter.unusedSimpArgs false
set_option maxRecDepth 100000
set_option maxHeartbeats 4000000
namespace Go.AM.S
open Go Go.AM

@[simp] theorem AVles_refl (l : List AV) : AVles l l := AVles.refl l

/-- What a note that brings 'e' must be. -/
structure ShipOk (ep old lsn : Int) (e : Entry) : Prop where
  v : Valid e
  ep0 : 0 < ep
  ep1 : ep < 4294967296
  l : e.lsn - 1 = lsn
  z : old = 0 ↔ lsn = 0
  o0 : 0 ≤ old
  oe : old ≤ e.epoch
  ee : e.epoch ≤ ep

theorem sShipped (ep old lsn : Int) (e : Entry) (h : ShipOk ep old lsn e) : ASpec Go.Proofs.Try.prog 43 [noteA (shipN ep old lsn (enc e))] [] (fun r h => r = .tup [ent e, .bool true] ∧ h = []) := by
  refine spec43 ?_ (by simp)
  obtain ⟨hv, h1, h2, h3, h4, h5, h6, h7⟩ := h
  have g0 := hv.l0
  have g1 := hv.l1
  have g2 := hv.e0
  have g3 := hv.e1
  simp (maxSteps := 10000000) (implicitDefEqProofs := false) [c43, noteA, noteL, shipN]
  refine AC.plain [noteA (shipN ep old lsn (enc e))] (sNoteCheck ep old lsn (enc e) (enc_len e hv)) (by simp [noteA, noteL, shipN]) ?_
  have n1 : ¬ ep = 0 := by omega
  have n2 : (old = 0) = (lsn = 0) := propext h4
  simp (maxSteps := 10000000) (implicitDefEqProofs := false) [n1, n2]
  refine AC.plain [bs (enc e)] (sGet e hv) (by simp) ?_
  have w1 : IntKind.u64.wrap (e.lsn - 1) = lsn := by rw [IntWalk.u64_in _ (by omega)]; omega
  simp (maxSteps := 10000000) (implicitDefEqProofs := false) [ent, entL, w1, h6, h7]
  exact Ent.map [] (idn rfl) (by simp) (by simp) (by simp) (by simp)

theorem sBeh1 (e : Entry) (n : Note) : ASpec Go.Proofs.Try.prog 77 [ent e, .ptr 0 0] [.cells 32 (noteL n)] (fun r h => r = .bool (decide (n.old < e.epoch)) ∧ h = [.cells 32 (noteL n)]) := by
  refine spec77 ?_ (by simp)
  simp (maxSteps := 10000000) (implicitDefEqProofs := false) [c77, noteL, ent, entL]
  exact Ent.map [0] (idn rfl) (by simp) (by simp) (by simp) (by simp)

/-- The first one with a greater epoch. -/
def idxL (m : List Entry) (old : Int) : Option Nat := m.findIdx? (fun e => decide (old < e.epoch))

theorem idx_some {m : List Entry} {old : Int} {i : Nat} (hi : i < m.length) (hlt : ∀ j, j < i → ¬ old < (m.getD j default).epoch) (h : old < m[i].epoch) : idxL m old = some i := by
  unfold idxL
  rw [List.findIdx?_eq_some_iff_getElem]
  refine ⟨hi, by simpa using h, fun j hj => ?_⟩
  have := hlt j hj
  have hjm : j < m.length := by omega
  rw [List.getD_eq_getElem?_getD, List.getElem?_eq_getElem hjm] at this
  simpa using this
theorem idx_none {m : List Entry} {old : Int} (hlt : ∀ j, j < m.length → ¬ old < (m.getD j default).epoch) : idxL m old = none := by
  unfold idxL
  rw [List.findIdx?_eq_none_iff]
  intro e he
  obtain ⟨j, hj, rfl⟩ := List.getElem_of_mem he
  have := hlt j hj
  rw [List.getD_eq_getElem?_getD, List.getElem?_eq_getElem hj] at this
  simpa using this

theorem sIndexFunc (m : List Entry) (n : Note) (hl : m.length < 1000) : ASpec Go.Proofs.Try.prog 76 [ents m, .fn 77 [.ptr 0 0]] [.cells 32 (noteL n)] (fun r h => r = .int .i64 (((idxL m n.old).map (Int.ofNat)).getD (-1)) ∧ h = [.cells 32 (noteL n)]) := by
  refine spec76 ?_ (by simp)
  simp (maxSteps := 10000000) (implicitDefEqProofs := false) [c76, ents]
  refine AWP.loop (D := Nat) (fun i => i ≤ m.length ∧ ∀ j, j < i → ¬ n.old < (m.getD j default).epoch) (fun i => ⟨mkT 19 [(0, ents m), (1, .fn 77 [.ptr 0 0]), (6, ents m), (7, .int .i64 m.length), (8, .int .i64 i)], [.cells 32 (noteL n)]⟩) (fun i => m.length - i) 0 ⟨by omega, fun j hj => by omega⟩ ?_ ?_
  · exact Ent.map [0] (idn rfl) (by simp) (by simp) (by simp) (by simp [ents]; exact AVles_mkT (by simp))
  · intro i ⟨hi, hlt⟩
    apply aexec_sound hmix; apply AX_of
    by_cases hil : i < m.length
    · have hg : m.getD i default = m[i] := by simp [hil]
      simp (maxSteps := 10000000) (implicitDefEqProofs := false) [ents, hil, entL]
      refine ⟨by kernel_rfl, ?_⟩
      refine AC.det [0] [ent m[i], .ptr 0 0] (sBeh1 m[i] n) (by decide) (by simp) (by simp [ent, entL]) (by simp) ?_
      have hlt' : ∀ j, j < i → (m[j]?.getD default).epoch ≤ n.old := fun j hj => by simpa using hlt j hj
      have hw : IntKind.i64.wrap ((i : Int) + 1) = i + 1 := IntWalk.i64_in _ (by omega)
      by_cases hc : n.old < m[i].epoch
      · have hidx := idx_some hil hlt hc
        simp (maxSteps := 10000000) (implicitDefEqProofs := false) [hc, hidx]
        exact Ent.refl _ _
      · simp (maxSteps := 10000000) (implicitDefEqProofs := false) [hc, hw]
        refine ⟨i + 1, ⟨by omega, fun j hj => ?_⟩, by omega, ?_⟩
        · by_cases hji : j = i
          · subst hji; simp [hil]; omega
          · exact hlt' j (by omega)
        · exact Ent.map [0] (idn rfl) (by simp) (by simp) (by simp) (by simp; exact AVles_mkT (by simp))
    · obtain rfl : i = m.length := by omega
      simp (maxSteps := 10000000) (implicitDefEqProofs := false) [ents, idx_none hlt]
      exact Ent.refl _ _

/-- To where one goes back. -/
def behindL (l : List Entry) (old lsn : Int) : Int :=
  firstL l - 1 + ((((idxL (l.take (lsn - firstL l).toNat) old).map (Int.ofNat)).getD (lsn - firstL l)))

theorem idx_lt {m : List Entry} {old : Int} {i : Nat} (h : idxL m old = some i) : i < m.length := by
  unfold idxL at h
  rw [List.findIdx?_eq_some_iff_getElem] at h
  exact h.1

theorem entF_take (l : List Entry) (k i j : Nat) (h : i < k) : entF (l.take k) i j = entF l i j := by
  have e : (l.take k).getD i default = l.getD i default := by
    rw [List.getD_eq_getElem?_getD, List.getElem?_take_of_lt h, ← List.getD_eq_getElem?_getD]
  unfold entF
  rw [e]
theorem take_ents (l : List Entry) (k : Nat) (hk : k ≤ l.length) : AVle (.psl 11 k (entF l)) (ents (l.take k)) :=
  AVle.psl (by simp; omega) fun i j hi hj => AVle.of_eq (entF_take l k i j hi).symm

theorem sBehind (l : List Entry) (n : Note) (hl : l.length < 1000) (hf : 0 < firstL l) (hf1 : firstL l ≤ n.lsn) (hf2 : n.lsn ≤ firstL l + l.length) (hf3 : n.lsn < 18446744073709551616) : ASpec Go.Proofs.Try.prog 45 [ents l, noteA n] [] (fun r h => r = .int .u64 (behindL l n.old n.lsn) ∧ h = []) := by
  refine spec45 ?_ (by simp)
  simp (maxSteps := 10000000) (implicitDefEqProofs := false) [c45, ents, noteA, noteL]
  refine AC.plain [ents l] (sFirst l) (by simp [ents]) ?_
  obtain ⟨k, hk⟩ : ∃ k : Nat, n.lsn - firstL l = k := ⟨(n.lsn - firstL l).toNat, by omega⟩
  have w1 : IntKind.u64.wrap (k : Int) = k := IntWalk.u64_in _ (by omega)
  have w2 : IntKind.i64.wrap (k : Int) = k := IntWalk.i64_in _ (by omega)
  have hkl : k ≤ l.length := by omega
  simp (maxSteps := 10000000) (implicitDefEqProofs := false) [hk, w1, w2, hkl]
  have ht := take_ents l k hkl
  refine AC.det [0] [ents (l.take k), .fn 77 [.ptr 0 0]] (sIndexFunc (l.take k) n (by simp; omega)) (by decide) (by simp [noteL]) (by simpa [ents] using ht) (by simp) ?_
  have e1 : (n.lsn - firstL l).toNat = k := by omega
  have hb : behindL l n.old n.lsn = firstL l - 1 + ((((idxL (l.take k) n.old).map (Int.ofNat)).getD k)) := by
    unfold behindL; rw [e1, hk]
  have hw : IntKind.u64.wrap (firstL l - 1) = firstL l - 1 := IntWalk.u64_in _ (by omega)
  rw [hb]
  cases hidx : idxL (l.take k) n.old with
  | none =>
    have hw2 : IntKind.u64.wrap (firstL l - 1 + k) = firstL l - 1 + k := IntWalk.u64_in _ (by omega)
    simp (maxSteps := 10000000) (implicitDefEqProofs := false) [noteL]
    refine AC.plain [ents l] (sFirst l) (by simp [ents]) ?_
    simp (maxSteps := 10000000) (implicitDefEqProofs := false) [hw, w1, hw2]
    exact Ent.map [] (idn rfl) (by simp) (by simp) (by simp) (by simp)
  | some i =>
    have hi := idx_lt hidx
    simp only [List.length_take] at hi
    have hw2 : IntKind.u64.wrap (firstL l - 1 + i) = firstL l - 1 + i := IntWalk.u64_in _ (by omega)
    have hw3 : IntKind.u64.wrap (i : Int) = i := IntWalk.u64_in _ (by omega)
    have hi0 : ¬ (i : Int) < 0 := by omega
    simp (maxSteps := 10000000) (implicitDefEqProofs := false) [noteL]
    refine ⟨fun h => absurd h hi0, ?_⟩
    refine AC.plain [ents l] (sFirst l) (by simp [ents]) ?_
    simp (maxSteps := 10000000) (implicitDefEqProofs := false) [hw, hw3, hw2]
    exact Ent.map [] (idn rfl) (by simp) (by simp) (by simp) (by simp)
end Go.AM.S
