/- A part of the proof: lemmas. -/
import Derived.Test.YtdoekadmocabdaaW6
set_option linter.unusedVariables false
set_option linter.unusedSimpArgs false
set_option maxRecDepth 100000
set_option maxHeartbeats 4000000
namespace Go.AM.S
open Go Go.AM

instance : Inhabited Entry := ⟨⟨0, 0, 0, 0, 0, false, 0, 0, 0, [], []⟩⟩
def entF (l : List Entry) : Nat → Nat → AV := fun i j => (entL (l.getD i default)).getD j .und
/-- Entries that are only read. -/
def ents (l : List Entry) : AV := .psl 11 l.length (entF l)

@[simp] theorem entF_all (l : List Entry) (i : Nat) : (List.range 11).map (entF l i) = entL (l.getD i default) := rfl
@[simp] theorem entL_len (e : Entry) : (entL e).length = 11 := rfl

@[simp] theorem ren_entF (σ : Nat → Nat) (l : List Entry) (i j : Nat) : ren σ (entF l i j) = entF l i j := by
  unfold entF entL
  rcases j with _ | _ | _ | _ | _ | _ | _ | _ | _ | _ | _ | j <;> simp
@[simp] theorem eta_entF (l : List Entry) : (fun i j => entF l i j) = entF l := rfl

structure RowOk (l : List Entry) : Prop where
  all : ∀ e, e ∈ l → Valid e
  lsn : ∀ i, i + 1 < l.length → (l.getD (i + 1) default).lsn = (l.getD i default).lsn + 1
  epoch : ∀ i, i + 1 < l.length → (l.getD (i + 1) default).epoch = (l.getD i default).epoch ∨ ((l.getD (i + 1) default).kind = 1 ∧ (l.getD i default).epoch < (l.getD (i + 1) default).epoch)

theorem sRow (l : List Entry) (h : RowOk l) (hl : l.length < 1000) : ASpec Go.Proofs.Try.prog 65 [ents l] [] (fun r h => r = .tup [.int .i64 l.length, .int .i64 0] ∧ h = []) := by
  refine spec65 ?_ (by simp)
  simp (maxSteps := 10000000) (implicitDefEqProofs := false) [c65, ents]
  refine AWP.loop (D := Nat) (fun i => i ≤ l.length) (fun i => ⟨mkT 57 [(10, .int .i64 i), (9, .int .i64 l.length), (8, .psl 11 l.length (entF l)), (0, .psl 11 l.length (entF l))], []⟩) (fun i => l.length - i) 0 (by omega) ?_ ?_
  · exact Ent.map [] (idn rfl) (by simp) (by simp) (by simp) (by simp; exact AVles_mkT (by simp))
  · intro i hi
    apply aexec_sound hmix; apply AX_of
    by_cases hil : i < l.length
    · have hv := h.all _ (List.getElem_mem hil)
      have hg : l.getD i default = l[i] := by simp [hil]
      rw [← hg] at hv
      have hnil : ¬ l.length ≤ i := by omega
      simp (maxSteps := 10000000) (implicitDefEqProofs := false) [hil, hnil, entL, bs]
      rw [hg] at hv
      refine AC.plain [ent l[i]] (sCheck _ hv) (by simp [ent, entL, bs]) ?_
      by_cases h0 : i = 0
      · subst h0
        simp (maxSteps := 10000000) (implicitDefEqProofs := false)
        refine ⟨1, by omega, by omega, ?_⟩
        exact Ent.map [] (idn rfl) (by simp) (by simp) (by simp) (by simp; exact AVles_mkT (by simp; exact AVle.int rfl))
      · obtain ⟨p, rfl⟩ : ∃ p, i = p + 1 := ⟨i - 1, by omega⟩
        have hp : p < l.length := by omega
        have hgp : l.getD p default = l[p] := by simp [hp]
        have h1 := h.lsn p hil
        have h2 := h.epoch p hil
        have hvp := h.all _ (List.getElem_mem hp)
        rw [hg, hgp] at h1 h2
        have ew : IntKind.i64.wrap (((p + 1 : Nat) : Int) - 1) = p := by rw [IntWalk.i64_in _ (by omega)]; omega
        have ew' : IntKind.i64.wrap ((p : Int) + 1 - 1) = p := by rw [IntWalk.i64_in _ (by omega)]; omega
        have ew2 : IntKind.u64.wrap (l[p + 1].lsn - 1) = l[p].lsn := by
          rw [h1]
          have := hvp.l0
          have := hvp.l1
          rw [IntWalk.u64_in _ (by omega)]; omega
        have ew3 : IntKind.i64.wrap (p : Int) = p := IntWalk.i64_in _ (by omega)
        have ew4 : IntKind.i64.wrap ((p : Int) + 1 + 1) = p + 1 + 1 := IntWalk.i64_in _ (by omega)
        have hn0 : ¬ ((p : Int) + 1 = 0) := by omega
        have hpi : (p : Int) < l.length := by omega
        rcases h2 with h2 | ⟨h2, h3⟩
        · simp (maxSteps := 10000000) (implicitDefEqProofs := false) [ew, ew', ew2, ew3, ew4, hn0, hp, hpi, entL, bs, h2]
          refine ⟨p + 1 + 1, by omega, by omega, ?_⟩
          exact Ent.map [] (idn rfl) (by simp) (by simp) (by simp) (by simp; exact AVles_mkT (by simp; try exact AVle.int (by omega)))
        · have h4 : ¬ l[p + 1].epoch = l[p].epoch := by omega
          have h5 : ¬ l[p + 1].epoch ≤ l[p].epoch := by omega
          simp (maxSteps := 10000000) (implicitDefEqProofs := false) [ew, ew', ew2, ew3, ew4, hn0, hp, hpi, entL, bs, h2, h3, h4, h5]
          refine ⟨p + 1 + 1, by omega, by omega, ?_⟩
          exact Ent.map [] (idn rfl) (by simp) (by simp) (by simp) (by simp; exact AVles_mkT (by simp; try exact AVle.int (by omega)))
    · obtain rfl : i = l.length := by omega
      simp (maxSteps := 10000000) (implicitDefEqProofs := false)
      exact Ent.refl _ _
end Go.AM.S
