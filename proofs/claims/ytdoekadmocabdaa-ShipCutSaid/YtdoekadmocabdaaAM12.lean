/- A part of the proof: lemmas. -/
import Derived.Test.YtdoekadmocabdaaAM11
set_option linter.unusedVariables false
set_option linter.unusedSimpArgs false
namespace Go.AM
section
variable {P : Program} {X : Cx} {R : RL} {w : World} {I : Nat → Prop} {s : St} {a : Act}

/-- What holds behind one operation. -/
structure Nx (X : Cx) (R : RL) (w : World) (I : Nat → Prop) (s : St) (kp : List Nat) (K : St → Prop) (s' : St) (R' : RL) (I' : Nat → Prop) (a' : Act) (w' : World) : Prop where
  k : K s'
  sat : Sat X R' w' I' s'.h
  t : CRelL R' w' I' s'.t a'.tmps.toList
  d : a'.defers = []
  ext : Ext R w I R' w' I'
  kq : ∀ n b, n ∈ kp → Live R s.h n b → w'.heap[b]? = w.heap[b]?
  kh : keepH kp s.h s'.h

def NX (X : Cx) (R : RL) (w : World) (I : Nat → Prop) (s : St) (kp : List Nat) (K : St → Prop) (a' : Act) (w' : World) : Prop := ∃ s' R' I', Nx X R w I s kp K s' R' I' a' w'

theorem keepH_refl : ∀ (kp : List Nat) (h : List AO), keepH kp h h
  | [], h => trivial
  | k :: r, h => ⟨rfl, keepH_refl r h⟩

theorem crelL_get (h : CRelL R w I s.t a.tmps.toList) (l : List Operand) (os : List Opd) (hl : l.map opdOf = os.map some) {e : Opd → AV} (he : ∀ x y, opdOf x = some y → y ∈ os → CRel R w I (e y) (a.eval x)) : CRelL R w I (os.map e) (l.map a.eval) := mapM_opds hl he

/-- One operation, not guarded (or under a guard that holds: 'e' bare). -/
theorem astep_sound {o : Oper} {io : IOper} {e : Opd → AV} {kp : List Nat} {K : St → Prop} {Q : Exit → Act → World → Prop} (hio : io.op = (cOp P o).getD .other) (hdst : io.dst = o.dst)
    (he : ∀ x z, opdOf x = some z → z ∈ io.op.opds → CRel R w I (e z) (a.eval x)) (h : astep P io e kp K s) (hs : Sat X R w I s.h) (ht : CRelL R w I s.t a.tmps.toList) (hd : a.defers = []) :
    o.wp P a w (NX X R w I s kp K) Q := by
  cases hc : cOp P o with
  | none =>
    rw [hc] at hio
    simp only [Option.getD_none] at hio
    unfold astep at h
    rw [hio] at h
    simp [aop] at h
  | some op =>
    rw [hc] at hio
    simp only [Option.getD_some] at hio
    rw [hio] at he
    unfold Oper.wp
    -- a value, in a world
    have val : ∀ {x : AV} {v : Value} {w' : World} {R' : RL} {I' : Nat → Prop} {h' : List AO}, K (putH s h' io.dst x) → keepH kp s.h h' → Sat X R' w' I' h' → CRel R' w' I' x v → Ext R w I R' w' I' → (∀ n b, n ∈ kp → Live R s.h n b → w'.heap[b]? = w.heap[b]?) →
        NX X R w I s kp K (a.put o.dst v) w' := by
      intro x v w' R' I' h' hk hkh hsat hcr hext hkp
      refine ⟨putH s h' io.dst x, R', I', hk, by rw [putH_h]; exact hsat, ?_, by rw [put_defers]; exact hd, hext, hkp, by rw [putH_h]; exact hkh⟩
      rw [hdst]
      exact put_rel (ht.mono hext) hcr h' s rfl
    have plain : ∀ (hq : op.quiet = true ∨ op.loud = true), (∃ x, aop op e (ev s.t) s.h = some x ∧ x.sc ∧ kpOk kp (aTouch op e) ∧ keepH kp s.h x.h ∧ K (putH s x.h io.dst x.v)) → o.upon P a (NX X R w I s kp K) Q ((execOp a.eval o).run P w) := by
      intro hq ⟨x, hx, hsc, hkp, hkh, hk⟩
      rcases hq with hq | hq
      · obtain ⟨h1, v, hrun, hcr⟩ := quiet_sound hc hq hx hsc he (he_raw0 ht) hs.obj
        rw [hrun w (fun _ => Wsame.refl _ _ _ _), Oper.upon_value]
        rw [h1] at hk hkh
        exact val hk hkh hs hcr (Ext.refl _ _ _) (fun _ _ _ _ => rfl)
      · obtain ⟨v, w', R', I', hrun, hsat, hcr, hext, hunt⟩ := loud_sound hc hq hx hsc hs he
        have hkp' : ∀ n b, n ∈ kp → Live R s.h n b → w'.heap[b]? = w.heap[b]? := fun n b hn hl => hunt n b hl (kpOk_get hkp n hn)
        rcases hrun with hrun | ⟨hrun, rfl⟩
        · rw [hrun, Oper.upon_value]
          exact val hk hkh hsat hcr hext hkp'
        · rw [hrun, Oper.upon_skip]
          exact val hk hkh hsat hcr hext hkp'
    unfold astep at h
    rw [hio] at h
    split at h
    · rename_i f args
      obtain ⟨xs, hxs, hrun⟩ := run_call hc
      rw [hrun, Oper.upon_enter]
      have hargs := mapM_opds hxs fun x y h1 h2 => he x y h1 h2
      refine (h X R w I _ hs hargs).mono ?_
      rintro e' w' ⟨r, h', v, R', I', ⟨hkh, hk⟩, rfl, hsat, hcr, hext, hkp⟩
      exact val hk hkh hsat hcr hext fun n b hn hl => hkp n b hl hn
    · rename_i g args
      obtain ⟨gx, xs, hgx, hxs, hrun⟩ := run_callv hc
      split at h
      · rename_i f cap hf
        obtain ⟨hcall, h⟩ := h
        have hg := he gx g hgx (by simp [IOp.opds])
        rw [hf] at hg
        unfold CRel at hg
        obtain ⟨cs, hv, hcs⟩ := hg
        rw [hrun a f cs w hv hcall, Oper.upon_enter]
        have hargs := mapM_opds hxs fun x y h1 h2 => he x y h1 (by simp [IOp.opds, h2])
        refine (h X R w I _ hs (hargs.append hcs)).mono ?_
        rintro e' w' ⟨r, h', v, R', I', ⟨hkh, hk⟩, rfl, hsat, hcr, hext, hkp⟩
        exact val hk hkh hsat hcr hext fun n b hn hl => hkp n b hl hn
      · exact h.elim
    · rename_i hn1 hn2
      have hq : op.quiet = true ∨ op.loud = true := by
        cases op <;> simp [IOp.quiet, IOp.loud] at hn1 hn2 ⊢
        simp [aop] at h
      refine plain hq ?_
      cases hx : aop op e (ev s.t) s.h with
      | none => rw [hx] at h; exact h.elim
      | some x => rw [hx] at h; exact ⟨x, rfl, h⟩

/-- One operation at the head of a list. -/
theorem one_sound {ops : Array Oper} {o : Oper} {kp : List Nat} {K : St → Prop} {Q : Exit → Act → World → Prop}
    (h : aone P (cOper P ops.toList o) kp K s) (hs : Sat X R w I s.h) (ht : CRelL R w I s.t a.tmps.toList) (hd : a.defers = []) :
    (Region.wanted o (yielded ops a.tmps) = true ∧ o.wp P a w (NX X R w I s kp K) Q) ∨ (Region.wanted o (yielded ops a.tmps) = false ∧ NX X R w I s kp K (a.put o.dst undef) w) := by
  simp only [aone, cOper] at h
  cases hg : o.guard with
  | none =>
    rw [hg] at h
    left
    refine ⟨by simp [Region.wanted, hg], ?_⟩
    exact astep_sound (io := cOper P ops.toList o) rfl rfl (he_raw ht _) (by simpa [cOper, hg] using h) hs ht hd
  | some gd =>
    obtain ⟨j, want⟩ := gd
    rw [hg] at h
    simp only at h
    split at h
    · exact h.elim
    · rename_i g hgo
      have hw := guard_rel (ops := ops) ht hg hgo
      -- what is left where the guard is false
      have skip : ∀ x, g = false → K (putH s s.h o.dst (.cnd g x)) → NX X R w I s kp K (a.put o.dst undef) w := by
        intro x hgf hk
        refine ⟨_, R, I, hk, by rw [putH_h]; exact hs, put_rel ht (by unfold CRel; exact ⟨fun hgt => (by rw [hgf] at hgt; cases hgt), fun _ => rfl⟩) s.h s rfl, by rw [put_defers]; exact hd, Ext.refl _ _ _, fun _ _ _ _ => rfl, by rw [putH_h]; exact keepH_refl _ _⟩
      cases hgb : g with
      | false =>
        right
        refine ⟨by rw [hw, hgb], ?_⟩
        cases hq : ((cOp P o).getD IOp.other).quiet with
        | true =>
          rw [hq] at h
          simp only at h
          split at h
          · exact skip (.bool false) hgb (by rw [hgb]; exact h.2)
          · exact skip _ hgb h.2
        | false =>
          rw [hq] at h
          simp only at h
          have := h.2 hgb
          exact skip (.bool false) hgb (by rw [hgb]; exact this)
      | true =>
        left
        refine ⟨by rw [hw, hgb], ?_⟩
        cases hq : ((cOp P o).getD IOp.other).quiet with
        | true =>
          rw [hq] at h
          simp only at h
          split at h
          · exact absurd h.1 (by rw [hgb]; simp)
          · rename_i x hx
            obtain ⟨h1, h2⟩ := h
            obtain ⟨hok, hsc⟩ := h1 hgb
            cases hc : cOp P o with
            | none => rw [hc] at hx; simp [aop] at hx
            | some op =>
              rw [hc] at hx hok hq
              simp only [Option.getD_some] at hx hok hq
              obtain ⟨h3, v, hrun, hcr⟩ := quiet_sound hc hq hx hsc (he_bare ht hok) (he_raw0 ht) hs.obj
              unfold Oper.wp
              rw [hrun w (fun _ => Wsame.refl _ _ _ _), Oper.upon_value]
              refine ⟨_, R, I, h2, by rw [putH_h]; exact hs, put_rel ht (by unfold CRel; exact ⟨fun _ => hcr, fun hf => (by rw [hgb] at hf; cases hf)⟩) s.h s rfl, by rw [put_defers]; exact hd, Ext.refl _ _ _, fun _ _ _ _ => rfl, by rw [putH_h]; exact keepH_refl _ _⟩
        | false =>
          rw [hq] at h
          simp only at h
          obtain ⟨hok, hst⟩ := h.1 hgb
          exact astep_sound (io := cOper P ops.toList o) rfl rfl (he_bare ht hok) (by simpa [cOper, hg] using hst) hs ht hd

/-- A region that goes in the text's order. -/
theorem aops_sound {ops : Array Oper} {Q : Exit → Act → World → Prop} {K : St → Prop} (hQ : ∀ (s' : St) R' w' I' (a' : Act), K s' → Sat X R' w' I' s'.h → CRelL R' w' I' s'.t a'.tmps.toList → a'.defers = [] → Q .normal a' w') :
    ∀ (l : List Oper) (s : St) (R : RL) (w : World) (I : Nat → Prop) (a : Act), aops P (l.map (cOper P ops.toList)) [] K s → Sat X R w I s.h → CRelL R w I s.t a.tmps.toList → a.defers = [] → wpList P ops Q l a w
  | [], s, R, w, I, a, h, hs, ht, hd => hQ s R w I a h hs ht hd
  | o :: l, s, R, w, I, a, h, hs, ht, hd => by
    rcases one_sound (Q := Q) (ops := ops) h hs ht hd with ⟨hw, h1⟩ | ⟨hw, h1⟩
    · unfold wpList
      rw [if_pos hw]
      left
      exact Oper.wp_mono (fun a' w' ⟨s', R', I', hn⟩ => aops_sound hQ l s' R' w' I' a' hn.k hn.sat hn.t hn.d) h1
    · unfold wpList
      rw [if_neg (by rw [hw]; simp)]
      obtain ⟨s', R', I', hn⟩ := h1
      exact aops_sound hQ l s' R' w I' _ hn.k hn.sat hn.t hn.d

/-! ### A region that draws its order -/
theorem mem_find {l : List Nat} {p : Nat → Bool} {i : Nat} (h : l.find? p = some i) : i ∈ l ∧ p i = true := ⟨List.mem_of_find?_eq_some h, List.find?_some h⟩

theorem ready_lt {ops : Array Oper} {listed : Array Bool} {i : Nat} (h : i ∈ Region.ready .any ops listed) : ∃ o, ops[i]? = some o := by
  obtain ⟨_, o, ho, _⟩ := mem_ready.1 h
  exact ⟨o, ho⟩

/-- What is held through a region: what is never written any more, and the objects 'hn'. -/
def Held (Rs : RL) (ws : World) (Is : Nat → Prop) (hn : List Nat) (w' : World) : Prop :=
  (∀ b, Is b → w'.heap[b]? = ws.heap[b]?) ∧ ∀ n, n ∈ hn → ∀ b c, Rs[n]? = some (some (b, c)) → w'.heap[b]? = ws.heap[b]?

theorem getD_map_ops {ops : Array Oper} {i : Nat} {o : Oper} (h : ops[i]? = some o) : (ops.toList.map (cOper P ops.toList)).getD i default = cOper P ops.toList o := by
  simp [List.getD_eq_getElem?_getD, h]

/-- A quiet operation that reads no memory, or only what is held. -/
theorem yields_of_quiet {ops : Array Oper} {o : Oper} {S : World → Prop} {v : Value} (hw : Region.wanted o (yielded ops a.tmps) = true) (h : ∀ w2, S w2 → (execOp a.eval o).run P w2 = .ok (.value v) w2) : YieldsIf P ops S o v a := .inl ⟨hw, h⟩

end
end Go.AM
