/- A part of the proof: lemmas. -/
import Derived.Test.YtdoekadmocabdaaW20
set_option linter.unusedVariables false
set_option linter.unusedSimpArgs false
set_option maxRecDepth 100000
set_option maxHeartbeats 4000000
namespace Go.AM.S
open Go Go.AM

/-- The same epoch at the same place: the same till there. -/
def LMP (X l : List Entry) : Prop := ∀ i, 0 < i → i ≤ l.length → i ≤ X.length → (l.getD (i - 1) default).epoch = (X.getD (i - 1) default).epoch → l.take i = X.take i

theorem lmp_take (X : List Entry) (k : Nat) : LMP X (X.take k) := by
  intro i h0 h1 h2 _
  simp only [List.length_take] at h1
  rw [List.take_take]
  congr 1; omega

theorem lmp_rows (c a b : List Int) : LMP (rowsX c a) (rowsY c b) := by
  intro i h0 h1 h2 he
  rw [rowsX_len] at h2
  rw [rowsY_len] at h1
  have hi : i ≤ nn c := by
    refine Nat.le_of_not_lt fun hlt => ?_
    exact rows_apart c a b (i - 1) (by omega) (by omega) (by omega) he.symm
  refine take_eq (by rw [rowsY_len]; omega) (by rw [rowsX_len]; omega) fun j hj => (rows_same c a b j (by omega)).symm

theorem common_le : ∀ (a b : List Entry), commonL a b ≤ a.length ∧ commonL a b ≤ b.length
  | [], b => by simp [commonL]
  | x :: a, [] => by simp [commonL]
  | x :: a, y :: b => by
    have := common_le a b
    simp only [commonL, List.length_cons]
    split <;> omega
theorem common_ge : ∀ {a b : List Entry} {i : Nat}, i ≤ a.length → i ≤ b.length → (∀ j, j < i → a.getD j default = b.getD j default) → i ≤ commonL a b
  | a, b, 0, _, _, _ => Nat.zero_le _
  | [], b, i + 1, h, _, _ => by simp at h
  | x :: a, [], i + 1, _, h, _ => by simp at h
  | x :: a, y :: b, i + 1, h1, h2, h3 => by
    have h0 := h3 0 (by omega)
    simp at h0
    simp only [commonL, if_pos h0]
    have := common_ge (a := a) (b := b) (i := i) (by simpa using h1) (by simpa using h2) (fun j hj => by simpa using h3 (j + 1) (by omega))
    omega
theorem common_lt : ∀ {a b : List Entry} {i : Nat}, (i < a.length → i < b.length → a.getD i default ≠ b.getD i default) → commonL a b ≤ i
  | [], b, i, _ => by simp [commonL]
  | x :: a, [], i, _ => by simp [commonL]
  | x :: a, y :: b, 0, h => by
    have := h (by simp) (by simp)
    simp at this
    simp [commonL, this]
  | x :: a, y :: b, i + 1, h => by
    simp only [commonL]
    split
    · have := common_lt (a := a) (b := b) (i := i) (fun h1 h2 => by simpa using h (by simpa using h1) (by simpa using h2))
      omega
    · omega
theorem common_take (X : List Entry) (k : Nat) (hk : k ≤ X.length) : commonL X (X.take k) = k := by
  refine common_eq X (X.take k) k hk (by simp; omega) (fun j hj => (getD_take hj).symm) (fun h1 h2 => ?_)
  simp only [List.length_take] at h2
  omega

/-- What the standby's row is like. -/
structure Good (X l : List Entry) : Prop where
  ok : RowOk l
  first : firstL l = 1
  lmp : LMP X l

theorem good_take {X : List Entry} (h : RowOk X) (hf : firstL X = 1) (k : Nat) : Good X (X.take k) := by
  refine ⟨h.take k, ?_, lmp_take X k⟩
  cases X with
  | nil => simp [firstL]
  | cons e X =>
    cases k with
    | zero => simp [firstL]
    | succ k => simpa [firstL] using hf

/-- One note, taken. -/
inductive Taken (X l : List Entry) (ep : Int) (i : Nat) (r : List Entry × Int × Note) : Prop where
  | back (q : Int) (h : r = (l, ep, noteBack ep q)) (h0 : 0 ≤ q) (hq : q < i)
  | stay (h : r = (l, ep, noteAck ep (i + 1))) (hl : i < l.length) (hs : l.take (i + 1) = X.take (i + 1))
  | put (h : r = (X.take (i + 1), ep, noteAck ep (i + 1))) (hl : i < X.length) (hc : commonL X l ≤ i)

theorem take_k {X l : List Entry} (hL : LMP X l) (hl : firstL l = 1) (i : Nat) (hi : i < X.length) : ∀ k, k ≤ l.length → (i : Int) = firstL l - 1 + k → (k = 0 ∨ ∃ j, k = j + 1 ∧ (l.getD j default).epoch = oldOf X i) → k = i ∧ l.take i = X.take i := by
  intro k hk hkl hor
  rw [hl] at hkl
  obtain rfl : k = i := by omega
  refine ⟨rfl, ?_⟩
  rcases hor with rfl | ⟨j, rfl, he⟩
  · simp
  · refine hL (j + 1) (by omega) hk (by omega) ?_
    show (l.getD j default).epoch = (X.getD j default).epoch
    rw [he]
    unfold oldOf
    rw [if_neg (by omega)]; rfl

theorem hap_of {X l : List Entry} (hX : RowOk X) (g : Good X l) (i : Nat) (hi : i < X.length) : ∀ k, k ≤ l.length → (i : Int) = firstL l - 1 + k → (k = 0 ∨ ∃ j, k = j + 1 ∧ (l.getD j default).epoch = oldOf X i) → RowOk (l.take k ++ [X.getD i default]) := by
  intro k hk hkl hor
  obtain ⟨rfl, ht⟩ := take_k g.lmp g.first i hi k hk hkl hor
  rw [ht, take_snoc hi]
  exact hX.take _

theorem last_len {l : List Entry} (h : RowOk l) (hf : firstL l = 1) : lastL l = l.length := by
  by_cases h0 : 0 < l.length
  · rw [last_eq h h0, hf]; omega
  · have : l = [] := List.eq_nil_of_length_eq_zero (by omega)
    subst this; rfl

theorem taken {X l : List Entry} (hX : RowOk X) (hXf : firstL X = 1) (g : Good X l) (i : Nat) (hi : i < X.length) (sn ep : Int) (hsn : ¬ ep < sn) : Taken X l ep i (takeL l sn ep (oldOf X i) i (X.getD i default)) := by
  have hlast := last_len g.ok g.first
  have hf := g.first
  have hlsn := row_lsn hX i hi
  rw [hXf] at hlsn
  unfold takeL
  rw [if_neg hsn, hlast, hf]
  by_cases h1 : (l.length : Int) < i
  · rw [if_pos h1]
    exact .back _ rfl (by omega) h1
  · rw [if_neg h1, if_neg (by omega)]
    have e1 : ((i : Int) - 1).toNat = i - 1 := by omega
    have e2 : ((i : Int) - (1 - 1)).toNat = i := by omega
    rw [e1]
    by_cases h2 : (1 : Int) ≤ i ∧ (l.getD (i - 1) default).epoch ≠ oldOf X i
    · rw [if_pos h2]
      refine .back _ rfl ?_ ?_
      · unfold behindL
        rw [hf]
        cases hidx : idxL (l.take ((i : Int) - 1).toNat) (oldOf X i) with
        | none => simp; omega
        | some j => simp
      · unfold behindL
        rw [hf]
        cases hidx : idxL (l.take ((i : Int) - 1).toNat) (oldOf X i) with
        | none => simp; omega
        | some j =>
          have := idx_lt hidx
          simp only [List.length_take] at this
          simp
          omega
    · rw [if_neg h2]
      simp only [e2]
      have ht : l.take i = X.take i := by
        refine (take_k g.lmp hf i hi i (by omega) (by rw [hf]; omega) ?_).2
        by_cases h0 : i = 0
        · exact .inl h0
        · refine .inr ⟨i - 1, by omega, ?_⟩
          by_cases he : (l.getD (i - 1) default).epoch = oldOf X i
          · exact he
          · exact absurd ⟨by omega, he⟩ h2
      have hack : (X.getD i default).lsn = (i : Int) + 1 := by omega
      rw [hack]
      by_cases h3 : i < l.length ∧ enc (l.getD i default) = enc (X.getD i default)
      · rw [if_pos h3]
        have he : l.getD i default = X.getD i default := enc_inj (g.ok.all _ (getD_mem h3.1)) (hX.all _ (getD_mem hi)) h3.2
        refine .stay rfl h3.1 ?_
        rw [← take_snoc h3.1, ← take_snoc hi, ht, he]
      · rw [if_neg h3]
        refine .put ?_ hi ?_
        · rw [ht, take_snoc hi]
        · exact common_lt fun h4 h5 h6 => h3 ⟨h5, by rw [h6]⟩

theorem Taken.facts {X l : List Entry} {ep : Int} {i : Nat} {r : List Entry × Int × Note} (t : Taken X l ep i r) (hX : RowOk X) (hXf : firstL X = 1) (g : Good X l) (hi : i < X.length) :
    Good X r.1 ∧ r.2.1 = ep ∧ r.1.length ≤ max l.length X.length ∧ commonL X l ≤ commonL X r.1 ∧ (r.2.2.kind = 2 → r.2.2.lsn ≤ commonL X r.1) ∧ (r.2.2.kind = 3 → r.2.2.lsn < i) ∧ 0 ≤ r.2.2.lsn ∧ (r.2.2.kind = 2 ∨ r.2.2.kind = 3) := by
  cases t with
  | back q h h0 hq =>
    subst h
    refine ⟨g, rfl, by simp only; omega, Nat.le_refl _, fun hk => ?_, fun _ => hq, h0, .inr rfl⟩
    simp [noteBack] at hk
  | stay h hl hs =>
    subst h
    refine ⟨g, rfl, by simp only; omega, Nat.le_refl _, fun _ => ?_, fun hk => ?_, by simp [noteAck]; omega, .inl rfl⟩
    · have : i + 1 ≤ commonL X l := common_ge (by omega) (by omega) (fun j hj => (take_get hs j hj).symm)
      show ((i : Int) + 1) ≤ (commonL X l : Int)
      omega
    · simp [noteAck] at hk
  | put h hl hc =>
    subst h
    have hct := common_take X (i + 1) (by omega)
    refine ⟨good_take hX hXf _, rfl, by simp only [List.length_take]; omega, by show _ ≤ commonL X (X.take (i + 1)); omega, fun _ => ?_, fun hk => ?_, by simp [noteAck]; omega, .inl rfl⟩
    · show ((i : Int) + 1) ≤ (commonL X (X.take (i + 1)) : Int)
      omega
    · simp [noteAck] at hk
end Go.AM.S
