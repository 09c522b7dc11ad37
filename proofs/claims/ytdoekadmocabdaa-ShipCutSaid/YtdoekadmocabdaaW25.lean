/- A part of the proof: lemmas. -/
import Derived.Test.YtdoekadmocabdaaW24
set_option linter.unusedVariables false
set_option linter.unusedSimpArgs false
set_option maxRecDepth 100000
set_option maxHeartbeats 4000000
namespace Go.AM.S
open Go Go.AM

theorem getD_drop (X : List Entry) (p j : Nat) : (X.drop p).getD j default = X.getD (p + j) default := by
  simp
theorem RowOk.drop {X : List Entry} (h : RowOk X) (p : Nat) : RowOk (X.drop p) := by
  refine ⟨fun e he => h.all e (List.mem_of_mem_drop he), fun i hi => ?_, fun i hi => ?_⟩
  · simp only [List.length_drop] at hi
    rw [getD_drop, getD_drop]
    exact h.lsn (p + i) (by omega)
  · simp only [List.length_drop] at hi
    rw [getD_drop, getD_drop]
    exact h.epoch (p + i) (by omega)
theorem drop_first {X : List Entry} (h : RowOk X) (hf : firstL X = 1) (p m : Nat) (hp : p < X.length) (hm : 0 < m) : firstL ((X.drop p).take m) = p + 1 := by
  have h1 := row_lsn h p hp
  have h2 : ((X.drop p).take m).getD 0 default = X.getD p default := by rw [getD_take hm, getD_drop]; rfl
  have h3 : 0 < ((X.drop p).take m).length := by simp; omega
  cases hl : (X.drop p).take m with
  | nil => rw [hl] at h3; simp at h3
  | cons e l =>
    rw [hl] at h2
    have : e = X.getD p default := by simpa using h2
    show e.lsn = _
    rw [this, h1, hf]; omega

/-- A row that began later, one entry more. -/
theorem cut_step {X : List Entry} (hX : RowOk X) (hXf : firstL X = 1) (p m : Nat) (hm : 0 < m) (hi : p + m < X.length) (E : Int) (hE : 0 < E) :
    takeL ((X.drop p).take m) 1 E (oldOf X (p + m)) (p + m : Nat) (X.getD (p + m) default) = ((X.drop p).take (m + 1), E, noteAck E ((p + m : Nat) + 1)) ∧
    ∀ k, k ≤ ((X.drop p).take m).length → (((p + m : Nat) : Int)) = firstL ((X.drop p).take m) - 1 + k → (k = 0 ∨ ∃ j, k = j + 1 ∧ (((X.drop p).take m).getD j default).epoch = oldOf X (p + m)) → RowOk (((X.drop p).take m).take k ++ [X.getD (p + m) default]) := by
  have hok := (hX.drop p).take m
  have hf := drop_first hX hXf p m (by omega) hm
  have hlen : ((X.drop p).take m).length = m := by simp; omega
  have hla := last_eq hok (by omega)
  rw [hf, hlen] at hla
  have hlsn := row_lsn hX (p + m) hi
  rw [hXf] at hlsn
  have hsn : ((X.drop p).take m).take m ++ [X.getD (p + m) default] = (X.drop p).take (m + 1) := by
    rw [List.take_take, Nat.min_self, ← take_snoc (l := X.drop p) (i := m) (by simp; omega), getD_drop]
  constructor
  · unfold takeL
    rw [if_neg (by omega), hla, if_neg (by omega), hf, if_neg (by omega)]
    have e1 : (((p + m : Nat) : Int) - ((p : Int) + 1)).toNat = m - 1 := by omega
    have e2 : (((p + m : Nat) : Int) - ((p : Int) + 1 - 1)).toNat = m := by omega
    rw [e1, if_neg ?_]
    · simp only [e2]
      rw [if_neg (by omega), hsn]
      have : (X.getD (p + m) default).lsn = ((p + m : Nat) : Int) + 1 := by omega
      rw [this]
    · intro ⟨_, h2⟩
      apply h2
      rw [getD_take (by omega), getD_drop]
      unfold oldOf
      rw [if_neg (by omega), show p + (m - 1) = p + m - 1 by omega]
  · intro k hk hkl _
    rw [hf] at hkl
    obtain rfl : k = m := by omega
    rw [hsn]
    exact (hX.drop p).take _

/-- The first note, taken again. -/
theorem cut_old {X : List Entry} (hX : RowOk X) (hXf : firstL X = 1) (p : Nat) (hp : p < X.length) (E : Int) (hE : 0 < E) :
    (∃ q, takeL (X.drop p) 1 E (oldOf X 0) (0 : Nat) (X.getD 0 default) = (X.drop p, E, noteAck E q)) ∧
    ∀ k, k ≤ (X.drop p).length → (((0 : Nat) : Int)) = firstL (X.drop p) - 1 + k → (k = 0 ∨ ∃ j, k = j + 1 ∧ ((X.drop p).getD j default).epoch = oldOf X 0) → RowOk ((X.drop p).take k ++ [X.getD 0 default]) := by
  have hok := hX.drop p
  have hf : firstL (X.drop p) = p + 1 := by
    have := drop_first hX hXf p (X.drop p).length hp (by simp; omega)
    rwa [List.take_length] at this
  have hlen : (X.drop p).length = X.length - p := by simp
  have hla := last_eq hok (by omega)
  rw [hf, hlen] at hla
  constructor
  · unfold takeL
    rw [if_neg (by omega), hla, if_neg (by omega), hf]
    by_cases h0 : p = 0
    · subst h0
      rw [if_neg (by omega), if_neg (by omega)]
      refine ⟨(X.getD 0 default).lsn, ?_⟩
      have e2 : (((0 : Nat) : Int) - (((0 : Nat) : Int) + 1 - 1)).toNat = 0 := by omega
      simp only [e2]
      rw [if_pos ⟨by omega, by rw [getD_drop]⟩]
    · rw [if_pos (by omega)]
      exact ⟨_, rfl⟩
  · intro k hk hkl _
    rw [hf] at hkl
    obtain rfl : k = 0 := by omega
    obtain rfl : p = 0 := by omega
    have := take_snoc (l := X) (i := 0) hp
    have h2 : (X.drop 0).take 0 ++ [X.getD 0 default] = X.take 1 := by simpa using this
    rw [h2]
    exact hX.take 1

theorem entF_ext' (l m : List Entry) (p p' q : Nat) (h : l.getD p default = m.getD p' default) : entF l p q = entF m p' q := by unfold entF; rw [h]
theorem entF_drop (X : List Entry) (p i j : Nat) : entF (X.drop p) i j = entF X (p + i) j := entF_ext' _ _ _ _ _ (getD_drop X p i)
end Go.AM.S
