/- A part of the proof: lemmas. -/
import Derived.Test.YtdoekadmocabdaaAM9
import Derived.Deep.LoopGhost
set_option linter.unusedVariables false
set_option linter.unusedSimpArgs false
namespace Go.AM

/-! ### Other names -/
mutual
def ren (σ : Nat → Nat) : AV → AV
  | .ptr n off => .ptr (σ n) off
  | .ep n sz i j => .ep (σ n) sz i j
  | .rp m k => .rp m (fun j => ren σ (k j))
  | .psl sz n f => .psl sz n (fun i j => ren σ (f i j))
  | .own n sz len => .own (σ n) sz len
  | .agg l => .agg (renL σ l)
  | .tup l => .tup (renL σ l)
  | .fn f cap => .fn f (renL σ cap)
  | .cnd c x => .cnd c (ren σ x)
  | .int k n => .int k n
  | .bool b => .bool b
  | .str l => .str l
  | .nilp => .nilp
  | .nils => .nils
  | .und => .und
  | .anyb => .anyb
def renL (σ : Nat → Nat) : List AV → List AV
  | [] => []
  | x :: r => ren σ x :: renL σ r
end

def renO (σ : Nat → Nat) : AO → AO
  | .cells T cs => .cells T (renL σ cs)
  | .row T sz n f => .row T sz n (fun i j => ren σ (f i j))
  | .siter l p => .siter l p
  | .dead => .dead

mutual
theorem ren_mono {σ : Nat → Nat} {R1 R2 : RL} {w : World} {I : Nat → Prop} (h : ∀ n e, R1[n]? = some e → R2[σ n]? = some e) : ∀ {x : AV} {v : Value}, CRel R1 w I x v → CRel R2 w I (ren σ x) v
  | .int k n, v, hv => by unfold CRel at hv; unfold ren CRel; exact hv
  | .bool b, v, hv => by unfold CRel at hv; unfold ren CRel; exact hv
  | .str l, v, hv => by unfold CRel at hv; unfold ren CRel; exact hv
  | .nilp, v, hv => by unfold CRel at hv; unfold ren CRel; exact hv
  | .nils, v, hv => by unfold CRel at hv; unfold ren CRel; exact hv
  | .und, v, hv => by unfold ren CRel; trivial
  | .anyb, v, hv => by unfold CRel at hv; unfold ren CRel; exact hv
  | .ptr n off, v, hv => by
    unfold CRel at hv; unfold ren CRel
    obtain ⟨b, c, h1, h2⟩ := hv
    exact ⟨b, c, h _ _ h1, h2⟩
  | .ep n sz i j, v, hv => by
    unfold CRel at hv; unfold ren CRel
    obtain ⟨b, c, h1, h2⟩ := hv
    exact ⟨b, c, h _ _ h1, h2⟩
  | .rp m k, v, hv => by
    unfold CRel at hv; unfold ren CRel
    obtain ⟨b, o, h1, h2, h3⟩ := hv
    refine ⟨b, o, h1, h2, fun j hj => ?_⟩
    obtain ⟨u, hu, hr⟩ := h3 j hj
    exact ⟨u, hu, ren_mono h hr⟩
  | .psl sz n f, v, hv => by
    unfold CRel at hv; unfold ren CRel
    obtain ⟨A, c, h1, hc, hm, h2⟩ := hv
    refine ⟨A, c, h1, hc, hm, fun hn => ?_⟩
    obtain ⟨b, o, h3, h4, h5⟩ := h2 hn
    refine ⟨b, o, h3, h4, fun i j hi hj => ?_⟩
    obtain ⟨u, hu, hr⟩ := h5 i j hi hj
    exact ⟨u, hu, ren_mono h hr⟩
  | .own n sz len, v, hv => by
    unfold CRel at hv; unfold ren CRel
    rcases hv with ⟨h1, h2, h3⟩ | ⟨b, c, h1, h2, h3⟩
    · exact .inl ⟨h _ _ h1, h2, h3⟩
    · exact .inr ⟨b, c, h _ _ h1, h2, h3⟩
  | .agg l, v, hv => by
    unfold CRel at hv; unfold ren CRel
    obtain ⟨cs, h1, h2⟩ := hv
    exact ⟨cs, h1, renL_mono h h2⟩
  | .tup l, v, hv => by
    unfold CRel at hv; unfold ren CRel
    obtain ⟨cs, h1, h2⟩ := hv
    exact ⟨cs, h1, renL_mono h h2⟩
  | .fn f cap, v, hv => by
    unfold CRel at hv; unfold ren CRel
    obtain ⟨cs, h1, h2⟩ := hv
    exact ⟨cs, h1, renL_mono h h2⟩
  | .cnd c x, v, hv => by
    unfold CRel at hv; unfold ren CRel
    exact ⟨fun hc => ren_mono h (hv.1 hc), hv.2⟩
theorem renL_mono {σ : Nat → Nat} {R1 R2 : RL} {w : World} {I : Nat → Prop} (h : ∀ n e, R1[n]? = some e → R2[σ n]? = some e) : ∀ {l : List AV} {vs : List Value}, CRelL R1 w I l vs → CRelL R2 w I (renL σ l) vs
  | [], vs, hv => by unfold CRelL at hv; unfold renL CRelL; exact hv
  | x :: r, vs, hv => by
    unfold CRelL at hv; unfold renL CRelL
    obtain ⟨v, vr, h1, h2, h3⟩ := hv
    exact ⟨v, vr, h1, ren_mono h h2, renL_mono h h3⟩
end

mutual
theorem ren_back {σ : Nat → Nat} {R1 R2 : RL} {w : World} {I : Nat → Prop} (h : ∀ n e, R2[σ n]? = some e → R1[n]? = some e) : ∀ {x : AV} {v : Value}, CRel R2 w I (ren σ x) v → CRel R1 w I x v
  | .int k n, v, hv => by unfold ren CRel at hv; unfold CRel; exact hv
  | .bool b, v, hv => by unfold ren CRel at hv; unfold CRel; exact hv
  | .str l, v, hv => by unfold ren CRel at hv; unfold CRel; exact hv
  | .nilp, v, hv => by unfold ren CRel at hv; unfold CRel; exact hv
  | .nils, v, hv => by unfold ren CRel at hv; unfold CRel; exact hv
  | .und, v, hv => by unfold CRel; trivial
  | .anyb, v, hv => by unfold ren CRel at hv; unfold CRel; exact hv
  | .ptr n off, v, hv => by
    unfold ren CRel at hv; unfold CRel
    obtain ⟨b, c, h1, h2⟩ := hv
    exact ⟨b, c, h _ _ h1, h2⟩
  | .ep n sz i j, v, hv => by
    unfold ren CRel at hv; unfold CRel
    obtain ⟨b, c, h1, h2⟩ := hv
    exact ⟨b, c, h _ _ h1, h2⟩
  | .rp m k, v, hv => by
    unfold ren CRel at hv; unfold CRel
    obtain ⟨b, o, h1, h2, h3⟩ := hv
    refine ⟨b, o, h1, h2, fun j hj => ?_⟩
    obtain ⟨u, hu, hr⟩ := h3 j hj
    exact ⟨u, hu, ren_back h hr⟩
  | .psl sz n f, v, hv => by
    unfold ren CRel at hv; unfold CRel
    obtain ⟨A, c, h1, hc, hm, h2⟩ := hv
    refine ⟨A, c, h1, hc, hm, fun hn => ?_⟩
    obtain ⟨b, o, h3, h4, h5⟩ := h2 hn
    refine ⟨b, o, h3, h4, fun i j hi hj => ?_⟩
    obtain ⟨u, hu, hr⟩ := h5 i j hi hj
    exact ⟨u, hu, ren_back h hr⟩
  | .own n sz len, v, hv => by
    unfold ren CRel at hv; unfold CRel
    rcases hv with ⟨h1, h2, h3⟩ | ⟨b, c, h1, h2, h3⟩
    · exact .inl ⟨h _ _ h1, h2, h3⟩
    · exact .inr ⟨b, c, h _ _ h1, h2, h3⟩
  | .agg l, v, hv => by
    unfold ren CRel at hv; unfold CRel
    obtain ⟨cs, h1, h2⟩ := hv
    exact ⟨cs, h1, renL_back h h2⟩
  | .tup l, v, hv => by
    unfold ren CRel at hv; unfold CRel
    obtain ⟨cs, h1, h2⟩ := hv
    exact ⟨cs, h1, renL_back h h2⟩
  | .fn f cap, v, hv => by
    unfold ren CRel at hv; unfold CRel
    obtain ⟨cs, h1, h2⟩ := hv
    exact ⟨cs, h1, renL_back h h2⟩
  | .cnd c x, v, hv => by
    unfold ren CRel at hv; unfold CRel
    exact ⟨fun hc => ren_back h (hv.1 hc), hv.2⟩
theorem renL_back {σ : Nat → Nat} {R1 R2 : RL} {w : World} {I : Nat → Prop} (h : ∀ n e, R2[σ n]? = some e → R1[n]? = some e) : ∀ {l : List AV} {vs : List Value}, CRelL R2 w I (renL σ l) vs → CRelL R1 w I l vs
  | [], vs, hv => by unfold renL CRelL at hv; unfold CRelL; exact hv
  | x :: r, vs, hv => by
    unfold renL CRelL at hv; unfold CRelL
    obtain ⟨v, vr, h1, h2, h3⟩ := hv
    exact ⟨v, vr, h1, ren_back h h2, renL_back h h3⟩
end

theorem renO_mono {σ : Nat → Nat} {R1 R2 : RL} {w : World} {I : Nat → Prop} (h : ∀ n e, R1[n]? = some e → R2[σ n]? = some e) {n : Nat} {o : AO} (ho : ORel R1 w I n o) : ORel R2 w I (σ n) (renO σ o) := by
  cases o with
  | cells T cs =>
    obtain ⟨b, c, vs, h1, h2, h3⟩ := ho
    exact ⟨b, c, vs, h _ _ h1, h2, renL_mono h h3⟩
  | row T sz k f =>
    obtain ⟨hs, ho⟩ := ho
    refine ⟨hs, ?_⟩
    rcases ho with ⟨h1, h2⟩ | ⟨b, c, vs, h1, h2, h3, h4, h5, h6⟩
    · exact .inl ⟨h _ _ h1, h2⟩
    · refine .inr ⟨b, c, vs, h _ _ h1, h2, h3, h4, h5, fun i j hi hj => ?_⟩
      obtain ⟨u, hu, hr⟩ := h6 i j hi hj
      exact ⟨u, hu, ren_mono h hr⟩
  | siter l p =>
    obtain ⟨b, c, h1, h2, h3⟩ := ho
    exact ⟨b, c, h _ _ h1, h2, h3⟩
  | dead => trivial

theorem renO_back {σ : Nat → Nat} {R1 R2 : RL} {w : World} {I : Nat → Prop} (h : ∀ n e, R2[σ n]? = some e → R1[n]? = some e) {n : Nat} {o : AO} (ho : ORel R2 w I (σ n) (renO σ o)) : ORel R1 w I n o := by
  cases o with
  | cells T cs =>
    obtain ⟨b, c, vs, h1, h2, h3⟩ := ho
    exact ⟨b, c, vs, h _ _ h1, h2, renL_back h h3⟩
  | row T sz k f =>
    obtain ⟨hs, ho⟩ := ho
    refine ⟨hs, ?_⟩
    rcases ho with ⟨h1, h2⟩ | ⟨b, c, vs, h1, h2, h3, h4, h5, h6⟩
    · exact .inl ⟨h _ _ h1, h2⟩
    · refine .inr ⟨b, c, vs, h _ _ h1, h2, h3, h4, h5, fun i j hi hj => ?_⟩
      obtain ⟨u, hu, hr⟩ := h6 i j hi hj
      exact ⟨u, hu, ren_back h hr⟩
  | siter l p =>
    obtain ⟨b, c, h1, h2, h3⟩ := ho
    exact ⟨b, c, h _ _ h1, h2, h3⟩
  | dead => trivial

theorem renO_live {σ : Nat → Nat} {o : AO} : (renO σ o).live = o.live := by cases o <;> rfl

/-! ### Calls -/
/-- A function's contract: called with such arguments, over such objects (those that it may change), it returns, and the post holds. -/
def ASpec (P : Program) (f : FuncId) (args : List AV) (h : List AO) (post : AV → List AO → Prop) : Prop :=
  ∀ (R : RL) (w : World) (I : Nat → Prop) (vs : List Value), Sat ⟨w, fun b => ∃ n, Live R h n b, I, R⟩ R w I h → CRelL R w I args vs →
    Calls P f vs.toArray w fun e w' => ∃ r h' v R' I', post r h' ∧ e = .returned v ∧ Sat ⟨w, fun b => ∃ n, Live R h n b, I, R⟩ R' w' I' h' ∧ CRel R' w' I' r v

/-- A call inside a state; the objects 'kp' are not touched. -/
def ACall (P : Program) (f : FuncId) (args : List AV) (H : List AO) (kp : List Nat) (post : AV → List AO → Prop) : Prop :=
  ∀ (X : Cx) (R : RL) (w : World) (I : Nat → Prop) (vs : List Value), Sat X R w I H → CRelL R w I args vs →
    Calls P f vs.toArray w fun e w' => ∃ r h' v R' I', post r h' ∧ e = .returned v ∧ Sat X R' w' I' h' ∧ CRel R' w' I' r v ∧ Ext R w I R' w' I' ∧ ∀ n b, Live R H n b → n ∈ kp → w'.heap[b]? = w.heap[b]?

theorem ACall.mono {P : Program} {f : FuncId} {args : List AV} {H : List AO} {kp : List Nat} {post post' : AV → List AO → Prop} (h : ACall P f args H kp post) (hp : ∀ r h, post r h → post' r h) : ACall P f args H kp post' :=
  fun X R w I vs hs ha => (h X R w I vs hs ha).mono fun e w' ⟨r, h', v, R', I', h1, h2⟩ => ⟨r, h', v, R', I', hp r h' h1, h2⟩

/-- The callee's names in the caller: the first are given, the others are new. -/
def nm (m : List Nat) (L n : Nat) : Nat := if n < m.length then m.getD n 0 else L + (n - m.length)

def putNames (H : List AO) : List Nat → List AO → List AO
  | n :: ns, o :: os => putNames (H.set n o) ns os
  | _, _ => H

theorem putNames_length : ∀ (ns : List Nat) (os H : List AO), (putNames H ns os).length = H.length
  | [], os, H => by cases os <;> rfl
  | n :: ns, [], H => rfl
  | n :: ns, o :: os, H => by simp [putNames, putNames_length ns os]

theorem putNames_other : ∀ (ns : List Nat) (os H : List AO) (q : Nat), q ∉ ns → (putNames H ns os)[q]? = H[q]?
  | [], os, H, q, _ => by cases os <;> rfl
  | n :: ns, [], H, q, _ => rfl
  | n :: ns, o :: os, H, q, hq => by
    simp only [List.mem_cons, not_or] at hq
    simp only [putNames]
    rw [putNames_other ns os _ q hq.2, List.getElem?_set_ne (Ne.symm hq.1)]

theorem putNames_at : ∀ (ns : List Nat) (os H : List AO) (i : Nat) (q : Nat) (o : AO), ns.Nodup → (∀ n, n ∈ ns → n < H.length) → ns[i]? = some q → os[i]? = some o → (putNames H ns os)[q]? = some o
  | [], os, H, i, q, o, _, _, h, _ => by simp at h
  | n :: ns, [], H, i, q, o, _, _, _, h => by simp at h
  | n :: ns, o' :: os, H, i, q, o, hd, hl, h1, h2 => by
    simp only [List.nodup_cons] at hd
    cases i with
    | zero =>
      simp at h1 h2
      subst h1; subst h2
      simp only [putNames]
      rw [putNames_other ns os _ _ hd.1, List.getElem?_set_self (hl _ (by simp))]
    | succ i =>
      simp at h1 h2
      simp only [putNames]
      exact putNames_at ns os _ i q o hd.2 (fun k hk => by simpa using hl k (by simp [hk])) h1 h2

/-- The caller's objects behind the call. -/
def behindH (H : List AO) (m : List Nat) (h' : List AO) : List AO :=
  putNames H m ((h'.take m.length).map (renO (nm m H.length))) ++ (h'.drop m.length).map (renO (nm m H.length))

theorem nodup_get : ∀ {m : List Nat}, m.Nodup → ∀ (i j n : Nat), m[i]? = some n → m[j]? = some n → i = j
  | [], _, i, j, n, hi, _ => by simp at hi
  | x :: m, hd, i, j, n, hi, hj => by
    simp only [List.nodup_cons] at hd
    cases i with
    | zero =>
      cases j with
      | zero => rfl
      | succ j =>
        simp at hi hj
        subst hi
        exact absurd (List.mem_of_getElem? hj) hd.1
    | succ i =>
      cases j with
      | zero =>
        simp at hi hj
        subst hj
        exact absurd (List.mem_of_getElem? hi) hd.1
      | succ j =>
        simp at hi hj
        rw [nodup_get hd.2 i j n hi hj]

theorem ACall.of_spec {P : Program} {f : FuncId} {args : List AV} {H h : List AO} {kp : List Nat} {post' post : AV → List AO → Prop} (m : List Nat) (args' : List AV) (hs : ASpec P f args' h post')
    (hml : m.length = h.length) (hmd : m.Nodup) (hmb : ∀ n, n ∈ m → n < H.length) (hH : ∀ (i n : Nat) (o : AO), m[i]? = some n → h[i]? = some o → H[n]? = some (renO (nm m H.length) o))
    (hargs : args = renL (nm m H.length) args') (hkp : ∀ n, n ∈ kp → n ∉ m) (hpost : ∀ r h', post' r h' → h.length ≤ h'.length → post (ren (nm m H.length) r) (behindH H m h')) : ACall P f args H kp post := by
  intro X R w I vs hsat ha
  let Rc : RL := m.map fun n => (R.getD n none)
  have hRl := hsat.len
  have rc : ∀ (i n : Nat), m[i]? = some n → Rc[i]? = R[n]? := by
    intro i n hi
    have hn : n < R.length := by rw [hRl]; exact hmb n (List.mem_of_getElem? hi)
    simp only [Rc, List.getElem?_map, hi, Option.map_some, List.getD_eq_getElem?_getD, List.getElem?_eq_getElem hn, Option.getD_some]
  have inm : ∀ (i : Nat), i < m.length → ∃ n, m[i]? = some n ∧ nm m H.length i = n := by
    intro i hi
    refine ⟨m[i], List.getElem?_eq_getElem hi, ?_⟩
    simp [nm, hi]
  have back : ∀ n e, R[nm m H.length n]? = some e → Rc[n]? = some e := by
    intro n e he
    by_cases hn : n < m.length
    · obtain ⟨q, hq, hq2⟩ := inm n hn
      rw [rc n q hq, ← hq2]; exact he
    · have := (List.getElem?_eq_some_iff.1 he).1
      simp [nm, hn] at this
      omega
  have fwd : ∀ n e, Rc[n]? = some e → R[nm m H.length n]? = some e := by
    intro n e he
    have hn : n < m.length := by simpa [Rc] using (List.getElem?_eq_some_iff.1 he).1
    obtain ⟨q, hq, hq2⟩ := inm n hn
    rw [hq2, ← rc n q hq]; exact he
  -- a live object of the callee is one of the caller
  have livec : ∀ i b, Live Rc h i b → ∃ n, m[i]? = some n ∧ Live R H n b := by
    intro i b ⟨c, o, h1, h2, h3⟩
    have hi : i < m.length := by rw [hml]; exact (List.getElem?_eq_some_iff.1 h2).1
    obtain ⟨q, hq, hq2⟩ := inm i hi
    refine ⟨q, hq, c, renO (nm m H.length) o, by rw [← rc i q hq]; exact h1, hH i q o hq h2, by rw [renO_live]; exact h3⟩
  have nodup := nodup_get hmd
  have satc : Sat ⟨w, fun b => ∃ n, Live Rc h n b, I, Rc⟩ Rc w I h := by
    refine ⟨by simp [Rc, hml], List.prefix_rfl, ?_, ?_, ?_, hsat.imm, fun _ h => h, fun _ _ => rfl, fun _ h => .inl h, fun _ _ _ => rfl, rfl, rfl, rfl, Nat.le_refl _⟩
    · intro n o hn
      have hi : n < m.length := by rw [hml]; exact (List.getElem?_eq_some_iff.1 hn).1
      obtain ⟨q, hq, hq2⟩ := inm n hi
      have := hsat.obj q _ (hH n q o hq hn)
      rw [← hq2] at this
      exact renO_back back this
    · intro i j b hi hj
      obtain ⟨q, hq, hL⟩ := livec i b hi
      obtain ⟨q', hq', hL'⟩ := livec j b hj
      have := hsat.inj q q' b hL hL'
      subst this
      exact nodup i j q hq hq'
    · intro n b hn
      obtain ⟨q, hq, hL⟩ := livec n b hn
      exact ⟨hsat.iLive hL, .inl ⟨n, hn⟩⟩
  have ac : CRelL Rc w I args' vs := renL_back back (by rw [← hargs]; exact ha)
  refine (hs Rc w I vs satc ac).mono ?_
  intro e w' ⟨r, h', v, R', I', hp, he, hsat', hcr⟩
  have hpin : Rc <+: R' := hsat'.pin
  have hRl' := hsat'.len
  have hle : m.length ≤ R'.length := by have := hpin.length_le; simpa [Rc] using this
  have hle' : h.length ≤ h'.length := by omega
  let R2 : RL := R ++ R'.drop m.length
  -- where a callee's name is told in the caller
  have fwd2 : ∀ n e, R'[n]? = some e → R2[nm m H.length n]? = some e := by
    intro n e he
    by_cases hn : n < m.length
    · obtain ⟨q, hq, hq2⟩ := inm n hn
      have hcn : Rc[n]? = some e := by
        have hx : n < Rc.length := by simpa [Rc] using hn
        have := pre_get hpin (List.getElem?_eq_getElem hx)
        rw [he] at this; cases this
        exact List.getElem?_eq_getElem hx
      have := fwd n e hcn
      simp only [R2]
      rw [List.getElem?_append_left (List.getElem?_eq_some_iff.1 this).1]; exact this
    · simp only [R2, nm, hn, if_false]
      rw [List.getElem?_append_right (by omega), List.getElem?_drop, hRl, Nat.add_sub_cancel_left, Nat.add_sub_cancel' (by omega)]
      exact he
  have hRR2 : R <+: R2 := List.prefix_append _ _
  -- the blocks
  have hI : ∀ b, I b → w'.heap[b]? = w.heap[b]? := fun b hb => hsat'.i0s b hb
  have ext : Ext R w I R2 w' I' := ⟨hRR2, hsat'.i0, hI⟩
  have far : ∀ b, b < w.heap.size → (∀ i, ¬ Live Rc h i b) → w'.heap[b]? = w.heap[b]? := fun b hb hn => hsat'.fr b hb fun ⟨i, hi⟩ => hn i hi
  have farL : ∀ n b, Live R H n b → n ∉ m → w'.heap[b]? = w.heap[b]? := by
    intro n b hL hn
    refine far b (hsat.lt hL) fun i hi => ?_
    obtain ⟨q, hq, hL'⟩ := livec i b hi
    have := hsat.inj n q b hL hL'
    subst this
    exact hn (List.mem_of_getElem? hq)
  -- the objects behind the call
  have H2len : (behindH H m h').length = H.length + (h'.length - m.length) := by simp [behindH, putNames_length]
  have look : ∀ q o, (behindH H m h')[q]? = some o → (q < H.length ∧ q ∉ m ∧ H[q]? = some o) ∨ ∃ n o', h'[n]? = some o' ∧ q = nm m H.length n ∧ o = renO (nm m H.length) o' := by
    intro q o hq
    by_cases hql : q < H.length
    · unfold behindH at hq
      rw [List.getElem?_append_left (by rw [putNames_length]; exact hql)] at hq
      by_cases hqm : q ∈ m
      · right
        obtain ⟨i, hi, hiq⟩ := List.getElem_of_mem hqm
        have hi2 : m[i]? = some q := by rw [List.getElem?_eq_getElem hi, hiq]
        have hi3 : i < h'.length := by omega
        refine ⟨i, h'[i], List.getElem?_eq_getElem hi3, ?_, ?_⟩
        · obtain ⟨q2, h1, h2⟩ := inm i hi
          rw [hi2] at h1; cases h1; exact h2.symm
        · have hos : ((h'.take m.length).map (renO (nm m H.length)))[i]? = some (renO (nm m H.length) h'[i]) := by
            simp [List.getElem?_take, hi, hi3]
          rw [putNames_at m _ H i q _ hmd hmb hi2 hos] at hq
          cases hq; rfl
      · left
        rw [putNames_other _ _ _ _ hqm] at hq
        exact ⟨hql, hqm, hq⟩
    · right
      unfold behindH at hq
      rw [List.getElem?_append_right (by rw [putNames_length]; omega), putNames_length, List.getElem?_map, Option.map_eq_some_iff] at hq
      obtain ⟨o', ho', rfl⟩ := hq
      rw [List.getElem?_drop] at ho'
      refine ⟨m.length + (q - H.length), o', ho', ?_, rfl⟩
      unfold nm
      rw [if_neg (by omega)]
      omega
  have nm_inj : ∀ i j, nm m H.length i = nm m H.length j → i = j := by
    intro i j hij
    by_cases hi : i < m.length <;> by_cases hj : j < m.length
    · obtain ⟨q, h1, h2⟩ := inm i hi
      obtain ⟨q', h1', h2'⟩ := inm j hj
      rw [h2, h2'] at hij
      subst hij
      exact nodup i j q h1 h1'
    · obtain ⟨q, h1, h2⟩ := inm i hi
      have := hmb q (List.mem_of_getElem? h1)
      rw [h2] at hij
      simp [nm, hj] at hij
      omega
    · obtain ⟨q, h1, h2⟩ := inm j hj
      have := hmb q (List.mem_of_getElem? h1)
      rw [h2] at hij
      simp [nm, hi] at hij
      omega
    · simp [nm, hi, hj] at hij
      omega
  -- a live object of the caller behind the call
  have live2 : ∀ q b, Live R2 (behindH H m h') q b → (q < H.length ∧ q ∉ m ∧ Live R H q b) ∨ ∃ n, q = nm m H.length n ∧ Live R' h' n b := by
    intro q b ⟨c, o, h1, h2, h3⟩
    rcases look q o h2 with ⟨hl, hm, ho⟩ | ⟨n, o', ho', rfl, rfl⟩
    · left
      refine ⟨hl, hm, c, o, ?_, ho, h3⟩
      simp only [R2] at h1
      rwa [List.getElem?_append_left (by omega)] at h1
    · right
      refine ⟨n, rfl, c, o', ?_, ho', by rw [renO_live] at h3; exact h3⟩
      have hn : n < R'.length := by rw [hRl']; exact (List.getElem?_eq_some_iff.1 ho').1
      have := fwd2 n _ (List.getElem?_eq_getElem hn)
      have e2 := Option.some.inj (h1.symm.trans this)
      rw [List.getElem?_eq_getElem hn, ← e2]
  have oldb : ∀ n b, Live R H n b → n ∉ m → ∀ k, ¬ Live R' h' k b := by
    intro n b hL hn k hk
    have h1 := (hsat'.sep k b hk).2
    rcases h1 with ⟨i, hi⟩ | h1
    · obtain ⟨q, hq, hL'⟩ := livec i b hi
      have := hsat.inj n q b hL hL'
      subst this
      exact hn (List.mem_of_getElem? hq)
    · have := hsat.lt hL
      simp only at h1
      omega
  refine ⟨ren (nm m H.length) r, behindH H m h', v, R2, I', hpost r h' hp hle', he, ⟨?_, hsat.pin.trans hRR2, ?_, ?_, ?_, hsat'.imm, fun b hb => hsat'.i0 b (hsat.i0 b hb), fun b hb => (hI b (hsat.i0 b hb)).trans (hsat.i0s b hb), ?_, ?_, hsat'.os.trans hsat.os, hsat'.tape.trans hsat.tape, hsat'.output.trans hsat.output, Nat.le_trans hsat.size hsat'.size⟩,
    ren_mono fwd2 hcr, ext, fun n b hL hk => farL n b hL (hkp n hk)⟩
  · rw [H2len]; simp [R2]; omega
  · intro q o hq
    rcases look q o hq with ⟨hl, hm, ho⟩ | ⟨n, o', ho', rfl, rfl⟩
    · cases hlive : o.live with
      | false => cases o <;> simp [AO.live] at hlive; trivial
      | true => exact (hsat.obj q o ho).mono ext fun b c hb => farL q b ⟨c, o, hb, ho, hlive⟩ hm
    · exact renO_mono fwd2 (hsat'.obj n o' ho')
  · intro p q b hp hq
    rcases live2 p b hp with ⟨_, h2, h3⟩ | ⟨i, rfl, h3⟩ <;> rcases live2 q b hq with ⟨_, h5, h6⟩ | ⟨j, rfl, h6⟩
    · exact hsat.inj p q b h3 h6
    · exact absurd h6 (oldb p b h3 h2 j)
    · exact absurd h3 (oldb q b h6 h5 i)
    · rw [hsat'.inj i j b h3 h6]
  · intro q b hq
    rcases live2 q b hq with ⟨_, h2, h3⟩ | ⟨i, rfl, h3⟩
    · refine ⟨fun hi => ?_, (hsat.sep q b h3).2⟩
      rcases hsat'.iN b hi with h4 | ⟨j, h4⟩ | h4
      · exact hsat.iLive h3 h4
      · obtain ⟨q', hq', hL'⟩ := livec j b h4
        have := hsat.inj q q' b h3 hL'
        subst this
        exact h2 (List.mem_of_getElem? hq')
      · have := hsat.lt h3
        simp only at h4
        omega
    · refine ⟨hsat'.iLive h3, ?_⟩
      rcases (hsat'.sep i b h3).2 with ⟨j, h4⟩ | h4
      · obtain ⟨q', hq', hL'⟩ := livec j b h4
        exact (hsat.sep q' b hL').2
      · exact .inr (Nat.le_trans hsat.size h4)
  · intro b hb
    rcases hsat'.iN b hb with h4 | ⟨j, h4⟩ | h4
    · exact hsat.iN b h4
    · obtain ⟨q', hq', hL'⟩ := livec j b h4
      exact .inr (hsat.sep q' b hL').2
    · exact .inr (.inr (Nat.le_trans hsat.size h4))
  · intro b hb hc
    refine (far b (Nat.lt_of_lt_of_le hb hsat.size) fun i hi => ?_).trans (hsat.fr b hb hc)
    obtain ⟨q', hq', hL'⟩ := livec i b hi
    rcases (hsat.sep q' b hL').2 with h4 | h4
    · exact hc h4
    · omega
end Go.AM
