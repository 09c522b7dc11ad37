/- A part of the proof: lemmas. -/
import Derived.Test.YtdoekadmocabdaaW19
set_option linter.unusedVariables false
set_option linter.unusedSimpArgs false
set_option maxRecDepth 100000
set_option maxHeartbeats 4000000
namespace Go.AM.S
open Go Go.AM

/-! ### The epochs of a pair -/
theorem eE_mono (c : List Int) (hc : bytes c) (i : Nat) : eE c i ≤ eE c (i + 1) := by simp only [eE]; omega
theorem eE_le (c : List Int) : ∀ (i j : Nat), i ≤ j → eE c i ≤ eE c j
  | i, 0, h => by have : i = 0 := by omega
                  subst this; exact Int.le_refl _
  | i, j + 1, h => by
    by_cases he : i = j + 1
    · subst he; exact Int.le_refl _
    · have := eE_le c i j (by omega)
      have h2 : eE c j ≤ eE c (j + 1) := by simp only [eE]; omega
      omega
theorem eA_le (s : Int) (a : List Int) : ∀ (i j : Nat), i ≤ j → eA s a i ≤ eA s a j
  | i, 0, h => by have : i = 0 := by omega
                  subst this; exact Int.le_refl _
  | i, j + 1, h => by
    by_cases he : i = j + 1
    · subst he; exact Int.le_refl _
    · have := eA_le s a i j (by omega)
      have h2 : eA s a j ≤ eA s a (j + 1) := by simp only [eA]; split <;> omega
      omega
theorem eA_par (s : Int) (a : List Int) : ∀ i, eA s a i % 2 = s % 2
  | 0 => rfl
  | i + 1 => by
    have := eA_par s a i
    simp only [eA]
    split <;> omega
theorem eC_bd (c : List Int) : 1 ≤ eC c ∧ eC c ≤ 21 := by have := eE_bd c (nn c); have := nn_le c; unfold eC; omega
theorem sA_bd (c : List Int) : eC c < sA c ∧ sA c ≤ 23 ∧ sA c % 2 = 0 := by have := eC_bd c; unfold sA; omega
theorem sB_bd (c : List Int) : eC c < sB c ∧ sB c ≤ 23 ∧ sB c % 2 = 1 := by have := eC_bd c; unfold sB; omega

theorem lX_lo (c : List Int) (s : Int) (a : List Int) (i : Nat) (h : i < nn c) : (lX c s a).getD i 0 = eE c (i + 1) := by rw [lX_get0 c s a i h, lC_get c i h]
theorem lX_hi (c : List Int) (s : Int) (a : List Int) (i : Nat) (h : i < nn c + nn a) (h2 : nn c ≤ i) : (lX c s a).getD i 0 = eA s a (i - nn c + 1) := by
  have := lX_get1 c s a (i - nn c) (by omega)
  rwa [show nn c + (i - nn c) = i by omega] at this

theorem lX_bd (c : List Int) (s : Int) (a : List Int) (hs : eC c < s) (i : Nat) (h : i < nn c + nn a) : 1 ≤ (lX c s a).getD i 0 ∧ (lX c s a).getD i 0 ≤ eA s a (nn a) := by
  have h0 := eC_bd c
  have h1 := eA_le s a 0 (nn a) (by omega)
  simp only [eA] at h1
  by_cases hi : i < nn c
  · rw [lX_lo c s a i hi]
    have h2 := eE_bd c (i + 1)
    have h3 := eE_le c (i + 1) (nn c) (by omega)
    unfold eC at h0 hs
    omega
  · rw [lX_hi c s a i h (by omega)]
    have h2 := eA_le s a 0 (i - nn c + 1) (by omega)
    simp only [eA] at h2
    have h3 := eA_le s a (i - nn c + 1) (nn a) (by omega)
    have h4 : eA s a 0 = s := rfl
    have h5 := eA_bd s a (i - nn c + 1)
    omega

theorem lX_mono (c : List Int) (s : Int) (a : List Int) (hs : eC c < s) (i : Nat) (h : i + 1 < nn c + nn a) : (lX c s a).getD i 0 ≤ (lX c s a).getD (i + 1) 0 := by
  by_cases h1 : i + 1 < nn c
  · rw [lX_lo c s a i (by omega), lX_lo c s a (i + 1) h1]
    exact eE_le c _ _ (by omega)
  · by_cases h2 : i < nn c
    · rw [lX_lo c s a i h2, lX_hi c s a (i + 1) h (by omega)]
      have h3 := eE_le c (i + 1) (nn c) (by omega)
      have h5 := eA_bd s a (i + 1 - nn c + 1)
      unfold eC at hs
      omega
    · rw [lX_hi c s a i (by omega) (by omega), lX_hi c s a (i + 1) h (by omega)]
      exact eA_le s a _ _ (by omega)

theorem lXrow_ok (c : List Int) (s : Int) (a : List Int) (hs : eC c < s) (hs2 : s ≤ 23) : RowOk (rowL (lX c s a) 1) := by
  have h1 := nn_le c
  have h2 := nn_le a
  have h3 := eA_bd s a (nn a)
  refine rowL_ok _ _ (by omega) (by simp; omega) (fun i hi => ?_) (fun i hi => ?_)
  · have := lX_bd c s a hs i (by simpa using hi)
    omega
  · exact lX_mono c s a hs i (by simpa using hi)

theorem rowsX_ok (c a : List Int) : RowOk (rowsX c a) := lXrow_ok c _ a (sA_bd c).1 (sA_bd c).2.1
theorem rowsY_ok (c b : List Int) : RowOk (rowsY c b) := modY_ok (lXrow_ok c _ b (sB_bd c).1 (sB_bd c).2.1) _ _
theorem rowsX_len (c a : List Int) : (rowsX c a).length = nn c + nn a := by unfold rowsX; simp
theorem rowsY_len (c b : List Int) : (rowsY c b).length = nn c + nn b := by unfold rowsY; rw [modY_len]; simp
theorem rowsX_get (c a : List Int) (i : Nat) (h : i < nn c + nn a) : (rowsX c a).getD i default = rowE (lX c (sA c) a) 1 i := rowL_get _ _ _ (by simpa using h)
theorem rowsY_epoch (c b : List Int) (i : Nat) (h : i < nn c + nn b) : ((rowsY c b).getD i default).epoch = (lX c (sB c) b).getD i 0 := by
  have h1 : ((rowsY c b).getD i default).epoch = ((rowL (lX c (sB c) b) 1).getD i default).epoch := modY_prop c.length 40 i (rowL (lX c (sB c) b) 1) (by simpa using h) (fun e => e.epoch = ((rowL (lX c (sB c) b) 1).getD i default).epoch) rfl (modE_epoch _ _ _)
  rw [h1, rowL_get _ _ _ (by simpa using h), rowE_epoch]
theorem rows_same (c a b : List Int) (i : Nat) (h : i < nn c) : (rowsX c a).getD i default = (rowsY c b).getD i default := by
  rw [rowsX_get c a i (by omega)]
  unfold rowsY
  rw [modY_get _ _ _ _ (by simp; omega), rowL_get _ _ _ (by simp; omega)]
  have h1 := nn_le c
  rw [modE_lo _ _ _ (by omega)]
  have : rowE (lX c (sA c) a) 1 i = rowE (lX c (sB c) b) 1 i := by
    unfold rowE
    rw [lX_get0 c (sA c) a i h, lX_get0 c (sB c) b i h]
    rw [lX_get0 c (sA c) a (i - 1) (by omega), lX_get0 c (sB c) b (i - 1) (by omega)]
  rw [this]; split <;> rfl
theorem rows_apart (c a b : List Int) (i : Nat) (h0 : nn c ≤ i) (h1 : i < nn c + nn a) (h2 : i < nn c + nn b) : ((rowsX c a).getD i default).epoch ≠ ((rowsY c b).getD i default).epoch := by
  rw [rowsX_get c a i h1, rowE_epoch, rowsY_epoch c b i h2, lX_hi _ _ _ _ h1 h0, lX_hi _ _ _ _ h2 h0]
  have := eA_par (sA c) a (i - nn c + 1)
  have := eA_par (sB c) b (i - nn c + 1)
  have := (sA_bd c).2.2
  have := (sB_bd c).2.2
  intro h
  omega
theorem rowsE_bd (c a b : List Int) : 0 < rowsE c a b ∧ rowsE c a b < 100 := by
  have h1 := eA_bd (sA c) a (nn a)
  have h2 := eA_bd (sB c) b (nn b)
  have := sA_bd c
  have := sB_bd c
  have := eC_bd c
  have := nn_le a
  have := nn_le b
  unfold rowsE
  omega
theorem rowsX_epoch (c a b : List Int) (i : Nat) (h : i < nn c + nn a) : ((rowsX c a).getD i default).epoch < rowsE c a b := by
  rw [rowsX_get c a i h, rowE_epoch]
  have := lX_bd c (sA c) a (sA_bd c).1 i h
  unfold rowsE
  omega
theorem first_one {l : List Entry} (h : l = [] ∨ (l.getD 0 default).lsn = 1) : firstL l = 1 := by
  cases l with
  | nil => rfl
  | cons e l =>
    rcases h with h | h
    · cases h
    · simpa [firstL] using h
theorem rowsX_first (c a : List Int) : firstL (rowsX c a) = 1 := by
  by_cases h : nn c + nn a = 0
  · have : rowsX c a = [] := List.eq_nil_of_length_eq_zero (by rw [rowsX_len]; exact h)
    rw [this]; rfl
  · exact first_one (.inr (by rw [rowsX_get c a 0 (by omega), rowE_lsn]; rfl))
theorem rowsY_first (c b : List Int) : firstL (rowsY c b) = 1 := by
  by_cases h : nn c + nn b = 0
  · have : rowsY c b = [] := List.eq_nil_of_length_eq_zero (by rw [rowsY_len]; exact h)
    rw [this]; rfl
  · refine first_one (.inr ?_)
    have h1 : ((rowsY c b).getD 0 default).lsn = ((rowL (lX c (sB c) b) 1).getD 0 default).lsn := modY_prop c.length 40 0 (rowL (lX c (sB c) b) 1) (by simp; omega) (fun e => e.lsn = ((rowL (lX c (sB c) b) 1).getD 0 default).lsn) rfl (modE_lsn _ _ _)
    rw [h1, rowL_get _ _ _ (by simp; omega), rowE_lsn]; rfl

/-! ### Rows -/
theorem getD_take {l : List Entry} {k i : Nat} (h : i < k) : (l.take k).getD i default = l.getD i default := by
  rw [List.getD_eq_getElem?_getD, List.getElem?_take_of_lt h, ← List.getD_eq_getElem?_getD]
theorem RowOk.take {l : List Entry} (h : RowOk l) (k : Nat) : RowOk (l.take k) := by
  refine ⟨fun e he => h.all e (List.mem_of_mem_take he), fun i hi => ?_, fun i hi => ?_⟩
  · simp only [List.length_take] at hi
    rw [getD_take (by omega), getD_take (by omega)]
    exact h.lsn i (by omega)
  · simp only [List.length_take] at hi
    rw [getD_take (by omega), getD_take (by omega)]
    exact h.epoch i (by omega)
theorem take_snoc {l : List Entry} {i : Nat} (h : i < l.length) : l.take i ++ [l.getD i default] = l.take (i + 1) := by
  rw [List.take_succ_eq_append_getElem h, List.getD_eq_getElem?_getD, List.getElem?_eq_getElem h]; rfl
theorem take_eq {l m : List Entry} {k : Nat} (h1 : k ≤ l.length) (h2 : k ≤ m.length) (h : ∀ j, j < k → l.getD j default = m.getD j default) : l.take k = m.take k := by
  refine list_eq (by simp; omega) fun j hj => ?_
  simp only [List.length_take] at hj
  rw [getD_take (by omega), getD_take (by omega)]
  exact h j (by omega)
theorem take_get {l m : List Entry} {k : Nat} (h : l.take k = m.take k) (j : Nat) (hj : j < k) : l.getD j default = m.getD j default := by
  rw [← getD_take hj, h, getD_take hj]
theorem epoch_mono {l : List Entry} (h : RowOk l) (i : Nat) (hi : i + 1 < l.length) : (l.getD i default).epoch ≤ (l.getD (i + 1) default).epoch := by
  rcases h.epoch i hi with h | h <;> omega

/-- What a primary's note is. -/
theorem ship_ok {X : List Entry} (h : RowOk X) (hf : firstL X = 1) (i : Nat) (hi : i < X.length) (ep : Int) (hep : (X.getD i default).epoch ≤ ep) (hep1 : ep < 4294967296) : ShipOk ep (oldOf X i) i (X.getD i default) := by
  have hv := h.all _ (getD_mem hi)
  have hl := row_lsn h i hi
  rw [hf] at hl
  have he0 := hv.e0
  refine ⟨hv, by omega, hep1, by omega, ?_, ?_, ?_, hep⟩
  · unfold oldOf
    by_cases h0 : i = 0
    · subst h0; simp
    · rw [if_neg h0]
      have := (h.all _ (getD_mem (show i - 1 < X.length by omega))).e0
      omega
  · unfold oldOf
    split
    · omega
    · have := (h.all _ (getD_mem (show i - 1 < X.length by omega))).e0
      omega
  · unfold oldOf
    split
    · omega
    · rename_i h0
      have := epoch_mono h (i - 1) (by omega)
      rwa [show i - 1 + 1 = i by omega] at this
end Go.AM.S
