/- A part of the proof: lemmas. -/
import Derived.Test.YtdoekadmocabdaaW10
set_option linter.unusedVariables false
set_option linter.unusedSimpArgs false
set_option maxRecDepth 100000
set_option maxHeartbeats 4000000
namespace Go.AM.S
open Go Go.AM

theorem renO_erow (σ : Nat → Nat) (l : List Entry) (n : Nat) : renO σ (erow l n) = erow l n := by simp [erow]

theorem sRowOwn (l : List Entry) (h : RowOk l) (hl : l.length < 1000) : ASpec Go.Proofs.Try.prog 65 [.own 0 11 l.length] [erow l l.length] (fun r h => r = .tup [.int .i64 l.length, .int .i64 0] ∧ h = [erow l l.length]) := by
  refine spec65 ?_ (by simp)
  simp (maxSteps := 10000000) (implicitDefEqProofs := false) [c65]
  refine AWP.loop (D := Nat) (fun i => i ≤ l.length) (fun i => ⟨mkT 57 [(10, .int .i64 i), (9, .int .i64 l.length), (8, .own 0 11 l.length), (0, .own 0 11 l.length)], [erow l l.length]⟩) (fun i => l.length - i) 0 (by omega) ?_ ?_
  · exact Ent.map [0] (idn rfl) (by simp) (by simp [erow]) (by simp [erow]) (by simp; exact AVles_mkT (by simp))
  · intro i hi
    apply aexec_sound hmix; apply AX_of
    by_cases hil : i < l.length
    · have hv := h.all _ (List.getElem_mem hil)
      have hg : l.getD i default = l[i] := by simp [hil]
      rw [← hg] at hv
      have hnil : ¬ l.length ≤ i := by omega
      simp (maxSteps := 10000000) (implicitDefEqProofs := false) [hil, hnil, entL, bs, erow]
      rw [hg] at hv
      refine AC.plain [ent l[i]] (sCheck _ hv) (by simp [ent, entL, bs]) ?_
      by_cases h0 : i = 0
      · subst h0
        simp (maxSteps := 10000000) (implicitDefEqProofs := false)
        refine ⟨1, by omega, by omega, ?_⟩
        exact Ent.map [0] (idn rfl) (by simp) (by simp) (by simp) (by simp; exact AVles_mkT (by simp; exact AVle.int rfl))
      · obtain ⟨p, rfl⟩ : ∃ p, i = p + 1 := ⟨i - 1, by omega⟩
        have hp : p < l.length := by omega
        have hgp : l.getD p default = l[p] := by simp [hp]
        have h1 := h.lsn p hil
        have h2 := h.epoch p hil
        have hvp := h.all _ (List.getElem_mem hp)
        rw [hg, hgp] at h1 h2
        have ew : IntKind.i64.wrap (((p + 1 : Nat) : Int) - 1) = p := by rw [IntWalk.i64_in _ (by omega)]; omega
        have ew' : IntKind.i64.wrap ((p : Int) + 1 - 1) = p := by rw [IntWalk.i64_in _ (by omega)]; omega
        have ew2 : IntKind.u64.wrap (l[p + 1].lsn - 1) = l[p].lsn := by
          rw [h1]
          have := hvp.l0
          have := hvp.l1
          rw [IntWalk.u64_in _ (by omega)]; omega
        have ew3 : IntKind.i64.wrap (p : Int) = p := IntWalk.i64_in _ (by omega)
        have ew4 : IntKind.i64.wrap ((p : Int) + 1 + 1) = p + 1 + 1 := IntWalk.i64_in _ (by omega)
        have hn0 : ¬ ((p : Int) + 1 = 0) := by omega
        have hpi : (p : Int) < l.length := by omega
        rcases h2 with h2 | ⟨h2, h3⟩
        · simp (maxSteps := 10000000) (implicitDefEqProofs := false) [ew, ew', ew2, ew3, ew4, hn0, hp, hpi, entL, bs, h2]
          refine ⟨p + 1 + 1, by omega, by omega, ?_⟩
          exact Ent.map [0] (idn rfl) (by simp) (by simp) (by simp) (by simp; exact AVles_mkT (by simp; try exact AVle.int (by omega)))
        · have h4 : ¬ l[p + 1].epoch = l[p].epoch := by omega
          have h5 : ¬ l[p + 1].epoch ≤ l[p].epoch := by omega
          simp (maxSteps := 10000000) (implicitDefEqProofs := false) [ew, ew', ew2, ew3, ew4, hn0, hp, hpi, entL, bs, h2, h3, h4, h5]
          refine ⟨p + 1 + 1, by omega, by omega, ?_⟩
          exact Ent.map [0] (idn rfl) (by simp) (by simp) (by simp) (by simp; exact AVles_mkT (by simp; try exact AVle.int (by omega)))
    · obtain rfl : i = l.length := by omega
      simp (maxSteps := 10000000) (implicitDefEqProofs := false) [erow]
      exact Ent.refl _ _

theorem sShipRowOwn (l : List Entry) (h : RowOk l) (hl : l.length < 1000) : ASpec Go.Proofs.Try.prog 37 [.own 0 11 l.length] [erow l l.length] (fun r h => r = .bool true ∧ h = [erow l l.length]) := by
  refine spec37 ?_ (by simp)
  simp (maxSteps := 10000000) (implicitDefEqProofs := false) [c37]
  refine AC.det [0] [.own 0 11 l.length] (sRowOwn l h hl) (by decide) (by simp [erow]) (by simp) (by simp) ?_
  simp (maxSteps := 10000000) (implicitDefEqProofs := false) [erow]
  exact Ent.refl _ _

theorem enc_bytes (e : Entry) (hv : Valid e) : bytes (enc e) := by
  intro x hx
  unfold enc at hx
  simp only [List.mem_append] at hx
  rcases hx with ((hx | hx) | hx) | hx
  · exact be_byte _ _ _ hx
  · exact be_byte _ _ _ hx
  · exact be_byte _ _ _ hx
  · split at hx
    · rename_i hk
      rcases hv.kinds with h | ⟨_, _, _, h1, h2, h3, h4, h5⟩
      · omega
      · simp only [List.mem_append, List.mem_cons] at hx
        rcases hx with (hx | hx | hx) | hx | hx
        · exact be_byte _ _ _ hx
        · omega
        · exact h4 _ hx
        · omega
        · exact h5 _ hx
    · cases hx

theorem enc_len (e : Entry) (hv : Valid e) : (enc e).length ≤ 255 := by
  unfold enc
  simp only [List.length_append, be_length]
  split
  · rcases hv.kinds with h | ⟨_, _, _, h1, h2, h3, h4, h5⟩
    · omega
    · simp; omega
  · simp

theorem tabI_bf (l : List Int) : tabI l.length (bf l) = l := by
  unfold tabI
  refine List.ext_getElem (by simp) fun i h1 h2 => ?_
  simp [bf, toI]
  simp at h1
  simp [h1]

theorem isB_bf (l : List Int) (h : bytes l) : ∀ i, i < l.length → isB (bf l i 0) := by
  intro i hi
  have := h _ (List.getElem_mem hi)
  refine ⟨l[i], by simp [bf, hi], this.1, this.2⟩

theorem sSame46 (e : Entry) (n : Note) (hv : Valid e) (hd : bytes n.data) (hl : n.data.length < 1000) : ASpec Go.Proofs.Try.prog 46 [ent e, noteA n] [] (fun r h => r = .bool (decide (enc e = n.data)) ∧ h = []) := by
  refine spec46 ?_ (by simp)
  simp (maxSteps := 10000000) (implicitDefEqProofs := false) [c46, ent, noteA, entL, noteL]
  refine AC.plain [ent e] (sPut40 e hv) (by simp [ent, entL]) ?_
  have h1 := isB_bf _ (enc_bytes e hv)
  have h2 := isB_bf _ hd
  simp (maxSteps := 10000000) (implicitDefEqProofs := false) [bs, tabI_bf]
  exact ⟨h1, h2, Ent.map [] (idn rfl) (by simp) (by simp) (by simp) (by simp)⟩
end Go.AM.S
