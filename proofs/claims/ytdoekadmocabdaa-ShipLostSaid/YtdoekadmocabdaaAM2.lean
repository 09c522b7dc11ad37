/- A part of the proof: lemmas. -/
import Derived.Test.YtdoekadmocabdaaAM1
set_option linter.unusedVariables false
namespace Go.AM

abbrev RL := List (Option (Nat × Nat))

def strOf (l : List Int) : ByteArray := ⟨(l.map fun n => UInt8.ofNat n.toNat).toArray⟩

mutual
/-- What an abstract value tells of a value. -/
def CRel (R : RL) (w : World) (I : Nat → Prop) : AV → Value → Prop
  | .int k n, v => v = .int k n
  | .bool b, v => v = .bool b
  | .str l, v => v = .string (strOf l) ∧ ∀ x, x ∈ l → 0 ≤ x ∧ x < 256
  | .nilp, v => v = .pointer none
  | .ptr n off, v => ∃ b c, R[n]? = some (some (b, c)) ∧ v = .pointer (some ⟨b, off, none⟩)
  | .ep n sz i j, v => ∃ b c, R[n]? = some (some (b, c)) ∧ v = .pointer (some ⟨b, i * sz + j, none⟩)
  | .rp m k, v => ∃ b o, v = .pointer (some ⟨b, o, none⟩) ∧ I b ∧ ∀ j, j < m → ∃ u, w.cell? ⟨b, o + j, none⟩ = some u ∧ CRel R w I (k j) u
  | .nils, v => v = .slice none 0 0
  | .psl sz n f, v => ∃ A c, v = .slice A n c ∧ n ≤ c ∧ n ≤ 9223372036854775807 ∧ (0 < n → ∃ b o, A = some ⟨b, o, none⟩ ∧ I b ∧ ∀ i j, i < n → j < sz → ∃ u, w.cell? ⟨b, o + (i * sz + j), none⟩ = some u ∧ CRel R w I (f i j) u)
  | .own n sz len, v => (R[n]? = some none ∧ len = 0 ∧ v = .slice none 0 0) ∨ ∃ b c, R[n]? = some (some (b, c)) ∧ len ≤ c ∧ v = .slice (some ⟨b, 0, none⟩) len c
  | .agg l, v => ∃ cs, v = .agg cs ∧ CRelL R w I l cs.toList
  | .tup l, v => ∃ cs, v = .tuple cs ∧ CRelL R w I l cs.toList
  | .fn f cap, v => ∃ cs, v = .func (.func f) #[] cs ∧ CRelL R w I cap cs.toList
  | .und, _ => True
  | .anyb, v => ∃ b, v = .bool b
  | .cnd c x, v => (c = true → CRel R w I x v) ∧ (c = false → v = undef)
def CRelL (R : RL) (w : World) (I : Nat → Prop) : List AV → List Value → Prop
  | [], vs => vs = []
  | x :: r, vs => ∃ v vr, vs = v :: vr ∧ CRel R w I x v ∧ CRelL R w I r vr
end

/-- More memory, more names; what is never written any more is as it was. -/
structure Ext (R : RL) (w : World) (I : Nat → Prop) (R' : RL) (w' : World) (I' : Nat → Prop) : Prop where
  r : R <+: R'
  i : ∀ b, I b → I' b
  b : ∀ b, I b → w'.heap[b]? = w.heap[b]?

theorem Ext.refl (R : RL) (w : World) (I : Nat → Prop) : Ext R w I R w I := ⟨List.prefix_rfl, fun _ h => h, fun _ _ => rfl⟩
theorem Ext.trans {R R' R'' : RL} {w w' w'' : World} {I I' I'' : Nat → Prop} (h : Ext R w I R' w' I') (k : Ext R' w' I' R'' w'' I'') : Ext R w I R'' w'' I'' :=
  ⟨h.r.trans k.r, fun b hb => k.i b (h.i b hb), fun b hb => (k.b b (h.i b hb)).trans (h.b b hb)⟩

theorem pre_get {R R' : RL} (h : R <+: R') {n : Nat} {x : Option (Nat × Nat)} (hx : R[n]? = some x) : R'[n]? = some x := by
  obtain ⟨t, rfl⟩ := h
  rw [List.getElem?_append_left (List.getElem?_eq_some_iff.1 hx).1]; exact hx

theorem cell_ext {w w' : World} {b o : Nat} (h : w'.heap[b]? = w.heap[b]?) : w'.cell? ⟨b, o, none⟩ = w.cell? ⟨b, o, none⟩ := World.cell?_of_block (a := ⟨b, o, none⟩) h

mutual
theorem CRel.mono {R R' : RL} {w w' : World} {I I' : Nat → Prop} (h : Ext R w I R' w' I') : ∀ {x : AV} {v : Value}, CRel R w I x v → CRel R' w' I' x v
  | .int k n, v, hv => by unfold CRel at hv ⊢; exact hv
  | .bool b, v, hv => by unfold CRel at hv ⊢; exact hv
  | .str l, v, hv => by unfold CRel at hv ⊢; exact hv
  | .nilp, v, hv => by unfold CRel at hv ⊢; exact hv
  | .ptr n off, v, hv => by
    unfold CRel at hv ⊢
    obtain ⟨b, c, h1, h2⟩ := hv
    exact ⟨b, c, pre_get h.r h1, h2⟩
  | .ep n sz i j, v, hv => by
    unfold CRel at hv ⊢
    obtain ⟨b, c, h1, h2⟩ := hv
    exact ⟨b, c, pre_get h.r h1, h2⟩
  | .rp m k, v, hv => by
    unfold CRel at hv ⊢
    obtain ⟨b, o, h1, h2, h3⟩ := hv
    refine ⟨b, o, h1, h.i b h2, fun j hj => ?_⟩
    obtain ⟨u, hu, hr⟩ := h3 j hj
    exact ⟨u, (cell_ext (h.b b h2)).trans hu, CRel.mono h hr⟩
  | .nils, v, hv => by unfold CRel at hv ⊢; exact hv
  | .psl sz n f, v, hv => by
    unfold CRel at hv ⊢
    obtain ⟨A, c, h1, hc, hm, h2⟩ := hv
    refine ⟨A, c, h1, hc, hm, fun hn => ?_⟩
    obtain ⟨b, o, h3, h4, h5⟩ := h2 hn
    refine ⟨b, o, h3, h.i b h4, fun i j hi hj => ?_⟩
    obtain ⟨u, hu, hr⟩ := h5 i j hi hj
    exact ⟨u, (cell_ext (h.b b h4)).trans hu, CRel.mono h hr⟩
  | .own n sz len, v, hv => by
    unfold CRel at hv ⊢
    rcases hv with ⟨h1, h2, h3⟩ | ⟨b, c, h1, h2, h3⟩
    · exact .inl ⟨pre_get h.r h1, h2, h3⟩
    · exact .inr ⟨b, c, pre_get h.r h1, h2, h3⟩
  | .agg l, v, hv => by
    unfold CRel at hv ⊢
    obtain ⟨cs, h1, h2⟩ := hv
    exact ⟨cs, h1, CRelL.mono h h2⟩
  | .tup l, v, hv => by
    unfold CRel at hv ⊢
    obtain ⟨cs, h1, h2⟩ := hv
    exact ⟨cs, h1, CRelL.mono h h2⟩
  | .fn f cap, v, hv => by
    unfold CRel at hv ⊢
    obtain ⟨cs, h1, h2⟩ := hv
    exact ⟨cs, h1, CRelL.mono h h2⟩
  | .und, v, hv => by unfold CRel; trivial
  | .anyb, v, hv => by unfold CRel at hv ⊢; exact hv
  | .cnd c x, v, hv => by
    unfold CRel at hv ⊢
    exact ⟨fun hc => CRel.mono h (hv.1 hc), hv.2⟩
theorem CRelL.mono {R R' : RL} {w w' : World} {I I' : Nat → Prop} (h : Ext R w I R' w' I') : ∀ {l : List AV} {vs : List Value}, CRelL R w I l vs → CRelL R' w' I' l vs
  | [], vs, hv => by unfold CRelL at hv ⊢; exact hv
  | x :: r, vs, hv => by
    unfold CRelL at hv ⊢
    obtain ⟨v, vr, h1, h2, h3⟩ := hv
    exact ⟨v, vr, h1, CRel.mono h h2, CRelL.mono h h3⟩
end

theorem CRelL.length {R : RL} {w : World} {I : Nat → Prop} : ∀ {l : List AV} {vs : List Value}, CRelL R w I l vs → vs.length = l.length
  | [], vs, h => by unfold CRelL at h; subst h; rfl
  | x :: r, vs, h => by
    unfold CRelL at h
    obtain ⟨v, vr, rfl, _, h3⟩ := h
    simp [CRelL.length h3]

theorem CRelL.get {R : RL} {w : World} {I : Nat → Prop} : ∀ {l : List AV} {vs : List Value}, CRelL R w I l vs → ∀ (i : Nat) (x : AV), l[i]? = some x → ∃ v, vs[i]? = some v ∧ CRel R w I x v
  | [], vs, h, i, x, hx => by simp at hx
  | y :: r, vs, h, i, x, hx => by
    unfold CRelL at h
    obtain ⟨v, vr, rfl, h2, h3⟩ := h
    cases i with
    | zero => simp at hx; subst hx; exact ⟨v, rfl, h2⟩
    | succ i => simp at hx; simpa using CRelL.get h3 i x hx

theorem CRelL.of_get {R : RL} {w : World} {I : Nat → Prop} : ∀ {l : List AV} {vs : List Value}, vs.length = l.length → (∀ (i : Nat) (x : AV) (v : Value), l[i]? = some x → vs[i]? = some v → CRel R w I x v) → CRelL R w I l vs
  | [], vs, h, _ => by unfold CRelL; exact List.eq_nil_of_length_eq_zero h
  | y :: r, vs, h, hg => by
    cases vs with
    | nil => simp at h
    | cons v vr =>
      unfold CRelL
      refine ⟨v, vr, rfl, hg 0 y v rfl rfl, CRelL.of_get (by simpa using h) fun i x u hx hu => hg (i + 1) x u (by simpa using hx) (by simpa using hu)⟩

theorem CRelL.set {R : RL} {w : World} {I : Nat → Prop} {l : List AV} {vs : List Value} (h : CRelL R w I l vs) (i : Nat) {x : AV} {v : Value} (hx : CRel R w I x v) : CRelL R w I (l.set i x) (vs.set i v) := by
  refine CRelL.of_get (by simp [h.length]) fun j y u hy hu => ?_
  rw [List.getElem?_set] at hy hu
  split at hy
  · rename_i hij
    subst hij
    simp only [if_true] at hu
    split at hy
    · rename_i hl
      rw [if_pos (by rw [h.length]; exact hl)] at hu
      cases hy; cases hu; exact hx
    · cases hy
  · rename_i hij
    rw [if_neg hij] at hu
    obtain ⟨u', hu', hr⟩ := h.get j y hy
    rw [hu] at hu'; cases hu'; exact hr

theorem CRelL.append {R : RL} {w : World} {I : Nat → Prop} : ∀ {l l' : List AV} {vs vs' : List Value}, CRelL R w I l vs → CRelL R w I l' vs' → CRelL R w I (l ++ l') (vs ++ vs')
  | [], l', vs, vs', h, h' => by unfold CRelL at h; subst h; exact h'
  | x :: r, l', vs, vs', h, h' => by
    unfold CRelL at h
    obtain ⟨v, vr, rfl, h2, h3⟩ := h
    show CRelL R w I (x :: (r ++ l')) (v :: (vr ++ vs'))
    unfold CRelL
    exact ⟨v, _, rfl, h2, CRelL.append h3 h'⟩

/-- One cell is one cell. -/
theorem CRel.one {R : RL} {w : World} {I : Nat → Prop} {x : AV} {v : Value} (h : CRel R w I x v) (ho : x.one = true) : v.oneCell' = true ∧ v.cells = #[v] := by
  cases x <;> simp [AV.one] at ho <;> unfold CRel at h
  case int => subst h; exact ⟨rfl, rfl⟩
  case bool => subst h; exact ⟨rfl, rfl⟩
  case anyb => obtain ⟨b, rfl⟩ := h; exact ⟨rfl, rfl⟩
  case str => rw [h.1]; exact ⟨rfl, rfl⟩
  case nilp => subst h; exact ⟨rfl, rfl⟩
  case ptr => obtain ⟨b, c, _, rfl⟩ := h; exact ⟨rfl, rfl⟩
  case ep => obtain ⟨b, c, _, rfl⟩ := h; exact ⟨rfl, rfl⟩
  case rp => obtain ⟨b, c, rfl, _⟩ := h; exact ⟨rfl, rfl⟩
  case nils => subst h; exact ⟨rfl, rfl⟩
  case psl => obtain ⟨b, c, rfl, _⟩ := h; exact ⟨rfl, rfl⟩
  case own => rcases h with ⟨_, _, rfl⟩ | ⟨b, c, _, _, rfl⟩ <;> exact ⟨rfl, rfl⟩
  case fn => obtain ⟨b, rfl, _⟩ := h; exact ⟨rfl, rfl⟩

/-! ### Objects, the whole -/
def ORel (R : RL) (w : World) (I : Nat → Prop) (n : Nat) : AO → Prop
  | .cells T cs => ∃ b c vs, R[n]? = some (some (b, c)) ∧ w.heap[b]? = some (.cells vs T (0, 0)) ∧ CRelL R w I cs vs.toList
  | .row T sz k f => 0 < sz ∧ ((R[n]? = some none ∧ k = 0) ∨ ∃ b c vs, R[n]? = some (some (b, c)) ∧ w.heap[b]? = some (.cells vs T (0, 0)) ∧ vs.size = c * sz ∧ k ≤ c ∧ c ≤ maxLen ∧
      ∀ i j, i < k → j < sz → ∃ u, vs[i * sz + j]? = some u ∧ CRel R w I (f i j) u)
  | .siter l p => ∃ b c, R[n]? = some (some (b, c)) ∧ w.heap[b]? = some (.stringIter (strOf l) p) ∧ ∀ x, x ∈ l → 0 ≤ x ∧ x < 256
  | .dead => True

structure Cx where
  w0 : World
  C : Nat → Prop
  I0 : Nat → Prop
  R0 : RL

def Live (R : RL) (H : List AO) (n b : Nat) : Prop := ∃ c o, R[n]? = some (some (b, c)) ∧ H[n]? = some o ∧ o.live = true

structure Sat (X : Cx) (R : RL) (w : World) (I : Nat → Prop) (H : List AO) : Prop where
  len : R.length = H.length
  pin : X.R0 <+: R
  obj : ∀ n o, H[n]? = some o → ORel R w I n o
  inj : ∀ m n b, Live R H m b → Live R H n b → m = n
  sep : ∀ n b, Live R H n b → ¬ I b ∧ (X.C b ∨ X.w0.heap.size ≤ b)
  imm : ∀ b, I b → b < w.heap.size
  i0 : ∀ b, X.I0 b → I b
  i0s : ∀ b, X.I0 b → w.heap[b]? = X.w0.heap[b]?
  iN : ∀ b, I b → X.I0 b ∨ X.C b ∨ X.w0.heap.size ≤ b
  fr : ∀ b, b < X.w0.heap.size → ¬ X.C b → w.heap[b]? = X.w0.heap[b]?
  os : w.os = X.w0.os
  tape : w.tape = X.w0.tape
  output : w.output = X.w0.output
  size : X.w0.heap.size ≤ w.heap.size

theorem ORel.mono {R R' : RL} {w w' : World} {I I' : Nat → Prop} (h : Ext R w I R' w' I') {n : Nat} {o : AO} (ho : ORel R w I n o)
    (hb : ∀ b c, R[n]? = some (some (b, c)) → w'.heap[b]? = w.heap[b]?) : ORel R' w' I' n o := by
  cases o with
  | cells T cs =>
    obtain ⟨b, c, vs, h1, h2, h3⟩ := ho
    exact ⟨b, c, vs, pre_get h.r h1, (hb b c h1).trans h2, h3.mono h⟩
  | row T sz k f =>
    obtain ⟨hs, ho⟩ := ho
    refine ⟨hs, ?_⟩
    rcases ho with ⟨h1, h2⟩ | ⟨b, c, vs, h1, h2, h3, h4, h5, h6⟩
    · exact .inl ⟨pre_get h.r h1, h2⟩
    · refine .inr ⟨b, c, vs, pre_get h.r h1, (hb b c h1).trans h2, h3, h4, h5, fun i j hi hj => ?_⟩
      obtain ⟨u, hu, hr⟩ := h6 i j hi hj
      exact ⟨u, hu, hr.mono h⟩
  | siter l p =>
    obtain ⟨b, c, h1, h2, h3⟩ := ho
    exact ⟨b, c, pre_get h.r h1, (hb b c h1).trans h2, h3⟩
  | dead => trivial

theorem ORel.lt {R : RL} {w : World} {I : Nat → Prop} {n : Nat} {o : AO} (ho : ORel R w I n o) (hl : o.live = true) {b c : Nat} (hb : R[n]? = some (some (b, c))) : b < w.heap.size := by
  cases o with
  | cells T cs =>
    obtain ⟨b', c', vs, h1, h2, _⟩ := ho
    rw [hb] at h1; cases h1
    exact (Array.getElem?_eq_some_iff.1 h2).1
  | row T sz k f =>
    obtain ⟨hs, ho⟩ := ho
    rcases ho with ⟨h1, _⟩ | ⟨b', c', vs, h1, h2, _⟩
    · rw [hb] at h1; cases h1
    · rw [hb] at h1; cases h1
      exact (Array.getElem?_eq_some_iff.1 h2).1
  | siter l p =>
    obtain ⟨b', c', h1, h2, _⟩ := ho
    rw [hb] at h1; cases h1
    exact (Array.getElem?_eq_some_iff.1 h2).1
  | dead => simp [AO.live] at hl

theorem Sat.lt {X : Cx} {R : RL} {w : World} {I : Nat → Prop} {H : List AO} (h : Sat X R w I H) {n b : Nat} (hl : Live R H n b) : b < w.heap.size := by
  obtain ⟨c, o, h1, h2, h3⟩ := hl
  exact (h.obj n o h2).lt h3 h1

/-- A world in which more orders were drawn. -/
theorem Sat.draw {X : Cx} {R : RL} {w : World} {I : Nat → Prop} {H : List AO} (h : Sat X R w I H) (k : Nat) : Sat X R { w with drawn := k } I H := by
  have e : Ext R w I R { w with drawn := k } I := ⟨List.prefix_rfl, fun _ h => h, fun _ _ => rfl⟩
  exact ⟨h.len, h.pin, fun n o ho => (h.obj n o ho).mono e fun _ _ _ => rfl, h.inj, h.sep, h.imm, h.i0, h.i0s, h.iN, h.fr, h.os, h.tape, h.output, h.size⟩
end Go.AM
