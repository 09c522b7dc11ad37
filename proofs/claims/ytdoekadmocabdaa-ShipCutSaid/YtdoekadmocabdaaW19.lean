/- A part of the proof: lemmas. -/
import Derived.Test.YtdoekadmocabdaaW18
set_option linter.unusedVariables false
set_option linter.unusedSimpArgs false
set_option maxRecDepth 100000
set_option maxHeartbeats 4000000
namespace Go.AM.S
open Go Go.AM

/-! ### An entry's bytes tell the entry -/
theorem be_inj {k : Nat} {n m : Int} (hn : 0 ≤ n ∧ n < 256 ^ k) (hm : 0 ≤ m ∧ m < 256 ^ k) (h : be k n = be k m) : n = m := by
  rw [← num_be' k n hn.1 hn.2, ← num_be' k m hm.1 hm.2, h]

theorem enc_inj {e f : Entry} (he : Valid e) (hf : Valid f) (h : enc e = enc f) : e = f := by
  unfold enc at h
  have hk : ∀ {x : Entry}, Valid x → 0 ≤ x.kind ∧ x.kind < 256 ^ 1 := fun hx => by
    rcases hx.kinds with h | h <;> simp [h.1]
  simp only [List.append_assoc] at h
  obtain ⟨h1, h⟩ := List.append_inj h (by simp)
  obtain ⟨h2, h⟩ := List.append_inj h (by simp)
  obtain ⟨h3, h⟩ := List.append_inj h (by simp)
  have g1 := be_inj (hk he) (hk hf) h1
  have g2 := be_inj (k := 8) ⟨by have := he.l0; omega, by have := he.l1; simpa using this⟩ ⟨by have := hf.l0; omega, by have := hf.l1; simpa using this⟩ h2
  have g3 := be_inj (k := 4) ⟨by have := he.e0; omega, by have := he.e1; simpa using this⟩ ⟨by have := hf.e0; omega, by have := hf.e1; simpa using this⟩ h3
  obtain ⟨r1, r2, r3, r4, r5⟩ := he.rest
  obtain ⟨s1, s2, s3, s4, s5⟩ := hf.rest
  have fin : e.order = f.order → e.key = f.key → e.data = f.data → e = f := by
    intro a1 a2 a3
    cases e; cases f
    simp_all
  rcases he.kinds with ⟨k1, k2, k3, k4⟩ | ⟨k1, k2, k3, k4, k5, k6, k7, k8⟩ <;> rcases hf.kinds with ⟨m1, m2, m3, m4⟩ | ⟨m1, m2, m3, m4, m5, m6, m7, m8⟩
  · exact fin (by rw [k2, m2]) (by rw [k3, m3]) (by rw [k4, m4])
  · omega
  · omega
  · rw [if_pos k1, if_pos m1] at h
    simp only [List.append_assoc, List.cons_append] at h
    obtain ⟨h4, h⟩ := List.append_inj h (by simp)
    have g4 := be_inj (k := 4) ⟨by omega, by simpa using k3⟩ ⟨by omega, by simpa using m3⟩ h4
    simp only [List.cons.injEq] at h
    obtain ⟨h5, h⟩ := h
    obtain ⟨h6, h⟩ := List.append_inj h (by omega)
    simp only [List.cons.injEq] at h
    exact fin g4 h6 h.2

/-! ### Rows of epochs are rows -/
theorem rowE_valid (eps : List Int) (mark : Int) (hm : 0 ≤ mark ∧ mark < 256) (i : Nat) (hi : i < 1000) (h0 : 0 < eps.getD i 0) (h1 : eps.getD i 0 < 4294967296) : Valid (rowE eps mark i) := by
  unfold rowE
  split
  · exact ⟨by show (0 : Int) < i + 1; omega, by show (i : Int) + 1 < _; omega, h0, h1, ⟨rfl, rfl, rfl, rfl, rfl⟩, .inl ⟨rfl, rfl, rfl, rfl⟩⟩
  · refine ⟨by show (0 : Int) < i + 1; omega, by show (i : Int) + 1 < _; omega, h0, h1, ⟨rfl, rfl, rfl, rfl, rfl⟩, .inr ⟨rfl, by simp, by simp, by simp, by simp, by simp, ?_, ?_⟩⟩
    · intro x hx; simp at hx; omega
    · intro x hx; simp at hx; omega

theorem rowE_lsn (eps : List Int) (mark : Int) (i : Nat) : (rowE eps mark i).lsn = i + 1 := by unfold rowE; split <;> rfl
theorem rowE_epoch (eps : List Int) (mark : Int) (i : Nat) : (rowE eps mark i).epoch = eps.getD i 0 := by unfold rowE; split <;> rfl

theorem rowL_ok (eps : List Int) (mark : Int) (hm : 0 ≤ mark ∧ mark < 256) (hl : eps.length < 900) (h : ∀ i, i < eps.length → 0 < eps.getD i 0 ∧ eps.getD i 0 < 4294967296) (hmono : ∀ i, i + 1 < eps.length → eps.getD i 0 ≤ eps.getD (i + 1) 0) : RowOk (rowL eps mark) := by
  refine ⟨?_, ?_, ?_⟩
  · intro e he
    obtain ⟨i, hi, rfl⟩ := List.mem_map.1 he
    rw [List.mem_range] at hi
    exact rowE_valid eps mark hm i (by omega) (h i hi).1 (h i hi).2
  · intro i hi
    rw [rowL_len] at hi
    rw [rowL_get _ _ _ hi, rowL_get _ _ _ (by omega), rowE_lsn, rowE_lsn]
    omega
  · intro i hi
    rw [rowL_len] at hi
    rw [rowL_get _ _ _ hi, rowL_get _ _ _ (by omega), rowE_epoch, rowE_epoch]
    by_cases he : eps.getD (i + 1) 0 = eps.getD i 0
    · exact .inl he
    · refine .inr ⟨?_, by have := hmono i hi; omega⟩
      unfold rowE
      rw [if_pos ⟨by omega, by simpa using he⟩]

theorem modE_valid {e : Entry} (h : Valid e) (lc i : Nat) : Valid (modE lc i e) := by
  unfold modE
  split
  · rename_i hc
    refine ⟨h.l0, h.l1, h.e0, h.e1, h.rest, ?_⟩
    rcases h.kinds with ⟨k1, k2, k3, k4⟩ | ⟨k1, k2, k3, k4, k5, k6, k7, k8⟩
    · rw [k4] at hc; simp at hc
    · refine .inr ⟨k1, k2, k3, k4, k5, by simp, k7, ?_⟩
      intro x hx; simp at hx; omega
  · exact h
theorem modE_lsn (lc i : Nat) (e : Entry) : (modE lc i e).lsn = e.lsn := by unfold modE; split <;> rfl
theorem modE_epoch (lc i : Nat) (e : Entry) : (modE lc i e).epoch = e.epoch := by unfold modE; split <;> rfl
theorem modE_kind (lc i : Nat) (e : Entry) : (modE lc i e).kind = e.kind := by unfold modE; split <;> rfl

theorem modY_prop (lc k p : Nat) (y : List Entry) (h : p < y.length) (Q : Entry → Prop) (h0 : Q (y.getD p default)) (h1 : Q (modE lc p (y.getD p default))) : Q ((modY lc k y).getD p default) := by
  rw [modY_get lc k p y h]
  split
  · exact h1
  · exact h0

theorem getD_mem {l : List Entry} {i : Nat} (h : i < l.length) : l.getD i default ∈ l := by
  rw [List.getD_eq_getElem?_getD, List.getElem?_eq_getElem h]
  exact List.getElem_mem h
theorem mem_getD {l : List Entry} {e : Entry} (h : e ∈ l) : ∃ i, i < l.length ∧ l.getD i default = e := by
  obtain ⟨i, hi, rfl⟩ := List.getElem_of_mem h
  exact ⟨i, hi, by simp [hi]⟩

theorem modY_ok {y : List Entry} (h : RowOk y) (lc k : Nat) : RowOk (modY lc k y) := by
  have hl := modY_len lc k y
  refine ⟨?_, ?_, ?_⟩
  · intro e he
    obtain ⟨i, hi, rfl⟩ := mem_getD he
    rw [hl] at hi
    have := h.all _ (getD_mem hi)
    exact modY_prop lc k i y hi Valid this (modE_valid this lc i)
  · intro i hi
    rw [hl] at hi
    have h1 : ((modY lc k y).getD i default).lsn = (y.getD i default).lsn := modY_prop lc k i y (by omega) (fun e => e.lsn = (y.getD i default).lsn) rfl (modE_lsn _ _ _)
    have h2 : ((modY lc k y).getD (i + 1) default).lsn = (y.getD (i + 1) default).lsn := modY_prop lc k (i + 1) y hi (fun e => e.lsn = (y.getD (i + 1) default).lsn) rfl (modE_lsn _ _ _)
    rw [h1, h2]; exact h.lsn i hi
  · intro i hi
    rw [hl] at hi
    have h1 : ((modY lc k y).getD i default).epoch = (y.getD i default).epoch := modY_prop lc k i y (by omega) (fun e => e.epoch = (y.getD i default).epoch) rfl (modE_epoch _ _ _)
    have h2 : ((modY lc k y).getD (i + 1) default).epoch = (y.getD (i + 1) default).epoch := modY_prop lc k (i + 1) y hi (fun e => e.epoch = (y.getD (i + 1) default).epoch) rfl (modE_epoch _ _ _)
    have h3 : ((modY lc k y).getD (i + 1) default).kind = (y.getD (i + 1) default).kind := modY_prop lc k (i + 1) y hi (fun e => e.kind = (y.getD (i + 1) default).kind) rfl (modE_kind _ _ _)
    rw [h1, h2, h3]; exact h.epoch i hi
end Go.AM.S
