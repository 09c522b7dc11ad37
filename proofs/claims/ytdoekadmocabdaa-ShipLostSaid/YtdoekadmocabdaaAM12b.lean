/- A part of the proof: lemmas. -/
import Derived.Test.YtdoekadmocabdaaAM12
set_option linter.unusedVariables false
set_option linter.unusedSimpArgs false
namespace Go.AM
section
variable {P : Program} {ops : Array Oper} {Q : Exit → Act → World → Prop} {md : Region.Mode} {S : World → Prop} {B : List Nat}

/-- 'S' holds as long as none of 'B' came up. -/
def Sl (S : World → Prop) (B : List Nat) (listed : Array Bool) (w : World) : Prop := (∀ b, b ∈ B → listed.getD b true = false) → S w

def wpAnyG (P : Program) (md : Region.Mode) (ops : Array Oper) (Q : Exit → Act → World → Prop) (S : World → Prop) (B : List Nat) : Nat → Array Bool → Act → World → Prop
  | 0, listed, a, w => Region.ready md ops listed = [] ∧ Q .normal a w
  | n + 1, listed, a, w => (Region.ready md ops listed = [] → Q .normal a w) ∧
    ∀ i ∈ Region.ready md ops listed, wpOp P ops Q i (fun a' w' => Sl S B (listed.setIfInBounds i true) w' ∧ wpAnyG P md ops Q S B n (listed.setIfInBounds i true) a' w') a w

theorem wpAny_of_G : ∀ (n : Nat) (listed : Array Bool) (a : Act) (w : World), wpAnyG P md ops Q S B n listed a w → wpAny P md ops Q n listed a w
  | 0, _, _, _, h => h
  | n + 1, _, _, _, h => ⟨h.1, fun i hi => wpOp_mono (fun a' w' h' => wpAny_of_G n _ a' w' h'.2) (h.2 i hi)⟩

theorem waits_listed {i b : Nat} {listed : Array Bool} (h : waits md ops i b = true) (hr : b ∈ Region.ready md ops listed) : listed.getD i false = true := by
  obtain ⟨_, o, ho, hall⟩ := mem_ready.1 hr
  simp only [waits, ho, Array.any_eq_true'] at h
  obtain ⟨e, he, h1⟩ := h
  simp only [Bool.and_eq_true, beq_iff_eq] at h1
  have := hall e he h1.1
  rwa [h1.2] at this

theorem Sl_set {i : Nat} {listed : Array Bool} {w : World} (hi : i ∉ B) (h : Sl S B listed w) : Sl S B (listed.setIfInBounds i true) w := fun hb => h fun b hbB => by
  have := hb b hbB
  rwa [getD_set_ne true (fun h => hi (by rw [h]; exact hbB))] at this
theorem Sl_unset {i : Nat} {listed : Array Bool} {w : World} (hi : i ∉ B) (h : Sl S B (listed.setIfInBounds i true) w) : Sl S B listed w := fun hb => h fun b hbB => by
  rw [getD_set_ne true (fun h => hi (by rw [h]; exact hbB))]; exact hb b hbB

/-- What yields where 'T' holds may be taken first; where it needs 'S', all of 'B' wait for it. -/
theorem wpAnyG_first {T : World → Prop} {i : Nat} {oi : Oper} {v : Value} (hi : ops[i]? = some oi) (hsel : ∀ (j : Nat) (o : Oper) cs b, ops[j]? = some o → o.op ≠ .select cs b)
    (hQ : ∀ c a w, Q (.panic c) (a.put oi.dst v) w → Q (.panic c) a w) (hiB : i ∉ B) :
    ∀ (fuel : Nat) (listed : Array Bool) (a : Act) (w : World),
      (∀ j oj, ops[j]? = some oj → j ≠ i → listed.getD j true = false → (∀ e ∈ oj.after, Region.binds md e = true → e.on ≠ i) → oi.apart ops oj = true) →
      i ∈ Region.ready md ops listed → YieldsIf P ops T oi v a → Sl S B listed w →
      ((∀ w, T w) ∨ ((∀ w, S w → T w) ∧ (∀ b, b ∈ B → waits md ops i b = true) ∧ ∀ b, b ∈ B → listed.getD b true = false)) →
      wpAnyG P md ops Q S B fuel (listed.setIfInBounds i true) (a.put oi.dst v) w → wpAnyG P md ops Q S B (fuel + 1) listed a w := by
  intro fuel
  have tOf : ∀ {listed : Array Bool} {w : World}, Sl S B listed w → ((∀ w, T w) ∨ ((∀ w, S w → T w) ∧ (∀ b, b ∈ B → waits md ops i b = true) ∧ ∀ b, b ∈ B → listed.getD b true = false)) → T w := by
    intro listed w hS h
    rcases h with h | ⟨h1, h2, h3⟩
    · exact h w
    · exact h1 w (hS h3)
  induction fuel with
  | zero =>
    intro listed a w _ hr hy hS hT H
    refine ⟨fun h => (by rw [h] at hr; cases hr), fun j hj => ?_⟩
    by_cases hji : j = i
    · subst hji; exact hy.wpOp hi (tOf hS hT) ⟨Sl_set hiB hS, H⟩
    · have := ready_mono hj hji
      rw [H.1] at this
      cases this
  | succ fuel ih =>
    intro listed a w hfree hr hy hS hT H
    refine ⟨fun h => (by rw [h] at hr; cases hr), fun j hj => ?_⟩
    by_cases hji : j = i
    · subst hji; exact hy.wpOp hi (tOf hS hT) ⟨Sl_set hiB hS, H⟩
    · have h1 := H.2 j (ready_mono hj hji)
      have hiun : listed.getD i false = false := by
        have h0 := (mem_ready.1 hr).1
        rcases Nat.lt_or_ge i listed.size with h' | h'
        · simpa [h'] using h0
        · simp [h']
      obtain ⟨hjun, oj, hoj, hall⟩ := mem_ready.1 hj
      have hnot : ∀ e ∈ oj.after, Region.binds md e = true → e.on ≠ i := fun e he hb heq => by
        have h1 := hall e he hb
        rw [heq, hiun] at h1
        cases h1
      have h2 := wpOp_putIf hoj (hfree j oj hoj hji hjun hnot) (fun cs b => hsel i oi cs b hi) (fun cs b => hsel j oj cs b hoj) hQ hy h1
      have hfree' : ∀ k ok, ops[k]? = some ok → k ≠ i → (listed.setIfInBounds j true).getD k true = false →
          (∀ e ∈ ok.after, Region.binds md e = true → e.on ≠ i) → oi.apart ops ok = true := fun k ok hk hki hun hno => by
        refine hfree k ok hk hki ?_ hno
        by_cases hjk : j = k
        · subst hjk; exact hjun
        · rw [getD_set_ne true hjk] at hun; exact hun
      have hT' : (∀ w, T w) ∨ ((∀ w, S w → T w) ∧ (∀ b, b ∈ B → waits md ops i b = true) ∧ ∀ b, b ∈ B → (listed.setIfInBounds j true).getD b true = false) := by
        rcases hT with h | ⟨h1, h2, h3⟩
        · exact .inl h
        · refine .inr ⟨h1, h2, fun b hb => ?_⟩
          by_cases hjb : j = b
          · subst hjb
            have := waits_listed (h2 j hb) hj
            rw [hiun] at this; cases this
          · rw [getD_set_ne true hjb]; exact h3 b hb
      refine wpOp_mono (fun a' w' h3 => ?_) h2
      have hSj : Sl S B (listed.setIfInBounds j true) w' := by
        have := h3.2.1
        rw [← Array.setIfInBounds_comm _ _ hji] at this
        exact Sl_unset hiB this
      refine ⟨hSj, ih (listed.setIfInBounds j true) a' w' hfree' (ready_mono hr (Ne.symm hji)) h3.1 hSj hT' ?_⟩
      rw [Array.setIfInBounds_comm _ _ hji]
      exact h3.2.2
end
end Go.AM
