/- A part of the proof: lemmas. -/
import Derived.Test.YtdoekadmocabdaaAM14
set_option linter.unusedVariables false
set_option linter.unusedSimpArgs false
namespace Go.AM

/-! ### What is weaker -/
/-- The second tells no more than the first. -/
def AVle (x y : AV) : Prop := ∀ (R : RL) (w : World) (I : Nat → Prop) (v : Value), CRel R w I x v → CRel R w I y v

theorem AVle.refl (x : AV) : AVle x x := fun _ _ _ _ h => h
theorem AVle.of_eq {x y : AV} (h : x = y) : AVle x y := h ▸ AVle.refl x
theorem AVle.und (x : AV) : AVle x .und := fun _ _ _ _ _ => by unfold CRel; trivial
theorem AVle.int {k : IntKind} {n m : Int} (h : n = m) : AVle (.int k n) (.int k m) := AVle.of_eq (by rw [h])
theorem AVle.bool {n m : Bool} (h : n = m) : AVle (.bool n) (.bool m) := AVle.of_eq (by rw [h])
theorem AVle.cnd {c : Bool} {x : AV} (h : c = true) : AVle (.cnd c x) x := fun _ _ _ _ hx => by unfold CRel at hx; exact hx.1 h
theorem AVle.psl {sz n n' : Nat} {f g : Nat → Nat → AV} (hn : n = n') (h : ∀ i j, i < n → j < sz → AVle (f i j) (g i j)) : AVle (.psl sz n f) (.psl sz n' g) := by
  subst hn
  intro R w I v hx
  unfold CRel at hx ⊢
  obtain ⟨A, c, h1, hc, hm, h2⟩ := hx
  refine ⟨A, c, h1, hc, hm, fun hn => ?_⟩
  obtain ⟨b, o, h3, h4, h5⟩ := h2 hn
  refine ⟨b, o, h3, h4, fun i j hi hj => ?_⟩
  obtain ⟨u, hu, hr⟩ := h5 i j hi hj
  exact ⟨u, hu, h i j hi hj R w I u hr⟩
theorem AVle.nils {sz : Nat} {g : Nat → Nat → AV} : AVle .nils (.psl sz 0 g) := by
  intro R w I v hx
  unfold CRel at hx ⊢
  exact ⟨none, 0, hx, Nat.le_refl _, by omega, fun h => absurd h (by omega)⟩
theorem AVle.rp {m m' : Nat} {f g : Nat → AV} (hm : m' ≤ m) (h : ∀ j, j < m' → AVle (f j) (g j)) : AVle (.rp m f) (.rp m' g) := by
  intro R w I v hx
  unfold CRel at hx ⊢
  obtain ⟨b, o, h1, h2, h3⟩ := hx
  refine ⟨b, o, h1, h2, fun j hj => ?_⟩
  obtain ⟨u, hu, hr⟩ := h3 j (by omega)
  exact ⟨u, hu, h j hj R w I u hr⟩

def AVles : List AV → List AV → Prop
  | [], [] => True
  | x :: r, y :: s => AVle x y ∧ AVles r s
  | _, _ => False

theorem AVles.refl : ∀ l, AVles l l
  | [] => trivial
  | x :: r => ⟨AVle.refl x, AVles.refl r⟩

theorem AVles.rel {R : RL} {w : World} {I : Nat → Prop} : ∀ {l l' : List AV} {vs : List Value}, AVles l l' → CRelL R w I l vs → CRelL R w I l' vs
  | [], [], vs, _, h => h
  | x :: r, y :: s, vs, hl, h => by
    unfold CRelL at h ⊢
    obtain ⟨v, vr, h1, h2, h3⟩ := h
    exact ⟨v, vr, h1, hl.1 R w I v h2, AVles.rel hl.2 h3⟩
  | [], _ :: _, _, hl, _ => hl.elim
  | _ :: _, [], _, hl, _ => hl.elim

theorem AVle.agg {l l' : List AV} (h : AVles l l') : AVle (.agg l) (.agg l') := by
  intro R w I v hx
  unfold CRel at hx ⊢
  obtain ⟨cs, h1, h2⟩ := hx
  exact ⟨cs, h1, h.rel h2⟩
theorem AVle.tup {l l' : List AV} (h : AVles l l') : AVle (.tup l) (.tup l') := by
  intro R w I v hx
  unfold CRel at hx ⊢
  obtain ⟨cs, h1, h2⟩ := hx
  exact ⟨cs, h1, h.rel h2⟩

def AOle : AO → AO → Prop
  | .cells T cs, .cells T' cs' => T = T' ∧ AVles cs cs'
  | .row T sz n f, .row T' sz' n' g => T = T' ∧ sz = sz' ∧ n' ≤ n ∧ (n = 0 → n' = 0) ∧ ∀ i j, i < n' → j < sz → AVle (f i j) (g i j)
  | .siter l p, .siter l' p' => l = l' ∧ p = p'
  | _, .dead => True
  | _, _ => False

theorem AOle.refl : ∀ o, AOle o o
  | .cells T cs => ⟨rfl, AVles.refl _⟩
  | .row T sz n f => ⟨rfl, rfl, Nat.le_refl _, id, fun i j _ _ => AVle.refl _⟩
  | .siter l p => ⟨rfl, rfl⟩
  | .dead => trivial

theorem AOle.rel {R : RL} {w : World} {I : Nat → Prop} {n : Nat} {o o' : AO} (h : AOle o o') (ho : ORel R w I n o) : ORel R w I n o' := by
  cases o <;> cases o' <;> simp only [AOle] at h
  case cells.cells T cs T' cs' =>
    obtain ⟨rfl, h⟩ := h
    obtain ⟨b, c, vs, h1, h2, h3⟩ := ho
    exact ⟨b, c, vs, h1, h2, h.rel h3⟩
  case row.row T sz k f T' sz' k' g =>
    obtain ⟨rfl, rfl, hk, hk0, hfg⟩ := h
    obtain ⟨hs, ho⟩ := ho
    refine ⟨hs, ?_⟩
    rcases ho with ⟨h1, h2⟩ | ⟨b, c, vs, h1, h2, h3, h4, h5, h6⟩
    · exact .inl ⟨h1, hk0 h2⟩
    · refine .inr ⟨b, c, vs, h1, h2, h3, by omega, h5, fun i j hi hj => ?_⟩
      obtain ⟨u, hu, hr⟩ := h6 i j (by omega) hj
      exact ⟨u, hu, hfg i j hi hj R w I u hr⟩
  case siter.siter l p l' p' =>
    obtain ⟨rfl, rfl⟩ := h
    exact ho
  all_goals trivial

/-- The objects 'os', told by the names 'ns' of 'H'. -/
def entO (H : List AO) (σ : Nat → Nat) : List Nat → List AO → Prop
  | [], [] => True
  | n :: ns, o' :: os => (o'.live = false ∨ ∃ o, H[n]? = some o ∧ o.live = true ∧ AOle o (renO σ o')) ∧ entO H σ ns os
  | _, _ => False

theorem entO_get {H : List AO} {σ : Nat → Nat} : ∀ {ns : List Nat} {os : List AO}, entO H σ ns os → ns.length = os.length ∧ ∀ (i : Nat) (o' : AO), os[i]? = some o' → o'.live = true → ∃ n o, ns[i]? = some n ∧ H[n]? = some o ∧ o.live = true ∧ AOle o (renO σ o')
  | [], [], _ => ⟨rfl, fun i o' h => by simp at h⟩
  | n :: ns, o :: os, h => by
    obtain ⟨h1, h2⟩ := h
    obtain ⟨h3, h4⟩ := entO_get h2
    refine ⟨by simp [h3], fun i o' hi hl => ?_⟩
    cases i with
    | zero =>
      simp at hi
      subst hi
      rcases h1 with h1 | ⟨p, h5, h6, h7⟩
      · rw [h1] at hl; cases hl
      · exact ⟨n, p, rfl, h5, h6, h7⟩
    | succ i => simp at hi; simpa using h4 i o' hi hl
  | [], _ :: _, h => h.elim
  | _ :: _, [], h => h.elim

/-- The names of what lives. -/
def liveN : List Nat → List AO → List Nat
  | n :: ns, o :: os => if o.live then n :: liveN ns os else liveN ns os
  | _, _ => []

theorem liveN_mem : ∀ {ns : List Nat} {os : List AO} {i : Nat} {n : Nat} {o : AO}, ns[i]? = some n → os[i]? = some o → o.live = true → n ∈ liveN ns os
  | [], os, i, n, o, h, _, _ => by simp at h
  | m :: ns, [], i, n, o, _, h, _ => by simp at h
  | m :: ns, p :: os, i, n, o, h1, h2, h3 => by
    unfold liveN
    cases i with
    | zero =>
      simp at h1 h2
      subst h1; subst h2
      rw [if_pos h3]; simp
    | succ i =>
      simp at h1 h2
      have := liveN_mem h1 h2 h3
      split
      · exact List.mem_cons_of_mem _ this
      · exact this

theorem liveN_inj : ∀ {ns : List Nat} {os : List AO}, (liveN ns os).Nodup → ∀ (i j n : Nat) (o o' : AO), ns[i]? = some n → ns[j]? = some n → os[i]? = some o → os[j]? = some o' → o.live = true → o'.live = true → i = j
  | [], os, _, i, j, n, o, o', h, _, _, _, _, _ => by simp at h
  | m :: ns, [], _, i, j, n, o, o', _, _, h, _, _, _ => by simp at h
  | m :: ns, p :: os, hd, i, j, n, o, o', h1, h2, h3, h4, h5, h6 => by
    unfold liveN at hd
    cases i with
    | zero =>
      cases j with
      | zero => rfl
      | succ j =>
        simp at h1 h3 h2 h4
        subst h1; subst h3
        rw [if_pos h5] at hd
        exact absurd (liveN_mem h2 h4 h6) (List.nodup_cons.1 hd).1
    | succ i =>
      cases j with
      | zero =>
        simp at h1 h3 h2 h4
        subst h2; subst h4
        rw [if_pos h6] at hd
        exact absurd (liveN_mem h1 h3 h5) (List.nodup_cons.1 hd).1
      | succ j =>
        simp at h1 h3 h2 h4
        have hd' : (liveN ns os).Nodup := by
          split at hd
          · exact (List.nodup_cons.1 hd).2
          · exact hd
        rw [liveN_inj hd' i j n o o' h1 h2 h3 h4 h5 h6]

/-- Other names: 'm' tells what the new names were called. -/
theorem Ent.map {K : Nat} {s s' : St} (m : List Nat) (hK : ∀ i, i < K → m[i]? = some i) (hm : ∀ n, n ∈ m → n < s.h.length) (hd : (liveN m s'.h).Nodup) (ho : entO s.h (nm m s.h.length) m s'.h) (ht : AVles s.t (renL (nm m s.h.length) s'.t)) : Ent K s s' := by
  intro X R w I vs hX hs hv
  obtain ⟨hml, hget⟩ := entO_get ho
  let R' : RL := m.map fun n => (R.getD n none)
  have rc : ∀ (i n : Nat), m[i]? = some n → R'[i]? = R[n]? := by
    intro i n hi
    have hn : n < R.length := by rw [hs.len]; exact hm n (List.mem_of_getElem? hi)
    simp only [R', List.getElem?_map, hi, Option.map_some, List.getD_eq_getElem?_getD, List.getElem?_eq_getElem hn, Option.getD_some]
  have inm : ∀ (i : Nat), i < m.length → ∃ n, m[i]? = some n ∧ nm m s.h.length i = n := fun i hi => ⟨m[i], List.getElem?_eq_getElem hi, by simp [nm, hi]⟩
  have back : ∀ n e, R[nm m s.h.length n]? = some e → R'[n]? = some e := by
    intro n e he
    by_cases hn : n < m.length
    · obtain ⟨q, hq, hq2⟩ := inm n hn
      rw [rc n q hq, ← hq2]; exact he
    · have := (List.getElem?_eq_some_iff.1 he).1
      rw [hs.len] at this
      simp [nm, hn] at this
      omega
  have livec : ∀ i b, Live R' s'.h i b → ∃ n, m[i]? = some n ∧ Live R s.h n b := by
    intro i b ⟨c, o, h1, h2, h3⟩
    obtain ⟨n, o2, h4, h5, h6, _⟩ := hget i o h2 h3
    exact ⟨n, h4, c, o2, by rw [← rc i n h4]; exact h1, h5, h6⟩
  refine ⟨R', I, ⟨by simp [R', hml], ?_, ?_, ?_, ?_, hs.imm, hs.i0, hs.i0s, hs.iN, hs.fr, hs.os, hs.tape, hs.output, hs.size⟩, renL_back back (ht.rel hv)⟩
  · -- the pinned names
    have hpin := hs.pin
    obtain ⟨T, hT⟩ := hpin
    have hKR : ∀ i, i < K → R'[i]? = X.R0[i]? := by
      intro i hi
      rw [rc i i (hK i hi), ← hT, List.getElem?_append_left (by omega)]
    refine List.prefix_iff_eq_take.2 ?_
    apply List.ext_getElem?
    intro i
    rw [List.getElem?_take]
    by_cases hi : i < K
    · rw [if_pos (by omega), hKR i hi]
    · rw [if_neg (by omega), List.getElem?_eq_none (by omega)]
  · intro i o' hi
    cases hlive : o'.live with
    | false => cases o' <;> simp [AO.live] at hlive; trivial
    | true =>
      obtain ⟨n, o, h1, h2, h3, h4⟩ := hget i o' hi hlive
      have hn : nm m s.h.length i = n := by
        obtain ⟨q, hq, hq2⟩ := inm i (List.getElem?_eq_some_iff.1 h1).1
        rw [h1] at hq; cases hq; exact hq2
      have := h4.rel (hs.obj n o h2)
      rw [← hn] at this
      exact renO_back back this
  · intro i j b hi hj
    obtain ⟨n, h1, h2⟩ := livec i b hi
    obtain ⟨n', h1', h2'⟩ := livec j b hj
    have := hs.inj n n' b h2 h2'
    subst this
    obtain ⟨c, o, _, h3, h4⟩ := hi
    obtain ⟨c', o', _, h3', h4'⟩ := hj
    exact liveN_inj hd i j n o o' h1 h1' h3 h3' h4 h4'
  · intro i b hi
    obtain ⟨n, h1, h2⟩ := livec i b hi
    exact hs.sep n b h2

/-- A nil slice owns a row without elements: in the slots 'ps'. -/
theorem Ent.addNil {K : Nat} {s : St} (T sz : Nat) (f : Nat → Nat → AV) (hsz : 0 < sz) (ps : List Nat) (hp : ∀ p, p ∈ ps → s.t[p]? = some .nils) :
    Ent K s ⟨ps.foldl (fun t p => t.set p (.own s.h.length sz 0)) s.t, s.h ++ [.row T sz 0 f]⟩ := by
  intro X R w I vs hX hs hv
  have ext : Ext R w I (R ++ [none]) w I := ⟨List.prefix_append _ _, fun _ h => h, fun _ _ => rfl⟩
  have hst := (hs.step (w' := w) (H1 := s.h) (fun _ => False) (.row T sz 0 f) none rfl (fun n o h1 _ => h1) (fun _ _ _ => rfl) (fun _ _ _ => id) (fun _ h => h.elim) (fun _ h => h.elim) (fun b c h => by cases h)
    ⟨hsz, .inl ⟨by simp [hs.len], rfl⟩⟩ rfl rfl rfl (Nat.le_refl _)).1
  refine ⟨R ++ [none], I, hst, ?_⟩
  have hv0 := hv.mono ext
  have nil : ∀ v, CRel R w I .nils v → CRel (R ++ [none]) w I (.own s.h.length sz 0) v := by
    intro v h
    unfold CRel at h ⊢
    exact .inl ⟨by simp [hs.len], rfl, h⟩
  -- slot by slot
  have key : ∀ (ps : List Nat) (t : List AV), (∀ p, p ∈ ps → t[p]? = some .nils ∨ t[p]? = some (.own s.h.length sz 0)) → (∀ p v, p ∈ ps → vs[p]? = some v → CRel R w I .nils v) → CRelL (R ++ [none]) w I t vs →
      CRelL (R ++ [none]) w I (ps.foldl (fun t p => t.set p (.own s.h.length sz 0)) t) vs := by
    intro ps
    induction ps with
    | nil => intro t _ _ h; exact h
    | cons p ps ih =>
      intro t h1 h2 h3
      simp only [List.foldl_cons]
      refine ih _ (fun q hq => ?_) (fun q v hq => h2 q v (List.mem_cons_of_mem _ hq)) ?_
      · by_cases hqp : p = q
        · subst hqp
          right
          have hlt : p < t.length := by
            rcases h1 p (by simp) with h | h <;> exact (List.getElem?_eq_some_iff.1 h).1
          rw [List.getElem?_set_self hlt]
        · rw [List.getElem?_set_ne hqp]
          exact h1 q (List.mem_cons_of_mem _ hq)
      · have hlt : p < t.length := by
          rcases h1 p (by simp) with h | h <;> exact (List.getElem?_eq_some_iff.1 h).1
        have hl := h3.length
        have hvp : vs[p]? = some vs[p] := List.getElem?_eq_getElem (by omega)
        have := h3.set p (nil vs[p] (h2 p _ (by simp) hvp))
        rwa [List.set_getElem_self] at this
  refine key ps s.t (fun p hp' => .inl (hp p hp')) (fun p v hp' hpv => ?_) hv0
  obtain ⟨v', h1, h2⟩ := hv.get p _ (hp p hp')
  rw [hpv] at h1; cases h1; exact h2

/-- The same, in a cell of an object. -/
theorem Ent.addNilO {K : Nat} {s : St} (T sz : Nat) (f : Nat → Nat → AV) (hsz : 0 < sz) (n off : Nat) {T' : Nat} {cs : List AV} (hn : s.h[n]? = some (.cells T' cs)) (hp : cs[off]? = some .nils) :
    Ent K s ⟨s.t, s.h.set n (.cells T' (cs.set off (.own s.h.length sz 0))) ++ [.row T sz 0 f]⟩ := by
  intro X R w I vs hX hs hv
  have ext : Ext R w I (R ++ [none]) w I := ⟨List.prefix_append _ _, fun _ h => h, fun _ _ => rfl⟩
  have hst := (hs.step (w' := w) (H1 := s.h) (fun _ => False) (.row T sz 0 f) none rfl (fun n o h1 _ => h1) (fun _ _ _ => rfl) (fun _ _ _ => id) (fun _ h => h.elim) (fun _ h => h.elim) (fun b c h => by cases h)
    ⟨hsz, .inl ⟨by simp [hs.len], rfl⟩⟩ rfl rfl rfl (Nat.le_refl _)).1
  have nil : ∀ v, CRel R w I .nils v → CRel (R ++ [none]) w I (.own s.h.length sz 0) v := by
    intro v h
    unfold CRel at h ⊢
    exact .inl ⟨by simp [hs.len], rfl, h⟩
  obtain ⟨b, c, vs', h1, h2, h3⟩ := hs.obj n _ hn
  have hnl : n < s.h.length := (List.getElem?_eq_some_iff.1 hn).1
  have hcs : CRelL (R ++ [none]) w I (cs.set off (.own s.h.length sz 0)) vs'.toList := by
    obtain ⟨v, hv1, hv2⟩ := h3.get off _ hp
    have := (h3.mono ext).set off (nil v hv2)
    obtain ⟨hlt, hvv⟩ := List.getElem?_eq_some_iff.1 hv1
    have hs2 : vs'.toList.set off v = vs'.toList := by rw [← hvv, List.set_getElem_self]
    rwa [hs2] at this
  have hw := hst.write (w' := w) (n := n) (b := b) (c := c) (o := .cells T' cs) (o' := .cells T' (cs.set off (.own s.h.length sz 0))) (pre_get ext.r h1) (by rw [List.getElem?_append_left hnl]; exact hn) rfl (fun _ _ _ => rfl)
    ⟨b, c, vs', pre_get ext.r h1, h2, hcs⟩ rfl rfl rfl rfl
  refine ⟨R ++ [none], I, ?_, hv.mono ext⟩
  have := hw.1
  rwa [List.set_append_left _ _ hnl] at this

/-! ### A row that is never written any more -/
mutual
def fz (k s n' : Nat) (f : Nat → Nat → AV) : AV → AV
  | .own k' s' n => if k' = k ∧ s' = s ∧ n ≤ n' then .psl s n f else .own k' s' n
  | .agg l => .agg (fzL k s n' f l)
  | .tup l => .tup (fzL k s n' f l)
  | .fn g l => .fn g (fzL k s n' f l)
  | .int k n => .int k n
  | .bool b => .bool b
  | .str l => .str l
  | .nilp => .nilp
  | .nils => .nils
  | .und => .und
  | .anyb => .anyb
  | .ptr n off => .ptr n off
  | .ep n sz i j => .ep n sz i j
  | .rp m k => .rp m k
  | .psl sz n f => .psl sz n f
  | .cnd c x => .cnd c x
def fzL (k s n' : Nat) (f : Nat → Nat → AV) : List AV → List AV
  | [] => []
  | x :: r => fz k s n' f x :: fzL k s n' f r
end

def fzO (k s n' : Nat) (f : Nat → Nat → AV) : AO → AO
  | .cells T cs => .cells T (fzL k s n' f cs)
  | .row T sz n g => .row T sz n (fun i j => fz k s n' f (g i j))
  | o => o

section
variable {R : RL} {w : World} {I : Nat → Prop} {k s n' : Nat} {f : Nat → Nat → AV}

mutual
theorem fz_rel (ho : ∀ (n c : Nat) (v : Value), n ≤ n' → CRel R w I (.own k s n) v → CRel R w I (.psl s n f) v) : ∀ {x : AV} {v : Value}, CRel R w I x v → CRel R w I (fz k s n' f x) v
  | .own k' s' n, v, h => by
    unfold fz
    split
    · rename_i hc
      obtain ⟨rfl, rfl, hn⟩ := hc
      exact ho n 0 v hn h
    · exact h
  | .agg l, v, h => by
    unfold fz; unfold CRel at h ⊢
    obtain ⟨cs, h1, h2⟩ := h
    exact ⟨cs, h1, fzL_rel ho h2⟩
  | .tup l, v, h => by
    unfold fz; unfold CRel at h ⊢
    obtain ⟨cs, h1, h2⟩ := h
    exact ⟨cs, h1, fzL_rel ho h2⟩
  | .fn g l, v, h => by
    unfold fz; unfold CRel at h ⊢
    obtain ⟨cs, h1, h2⟩ := h
    exact ⟨cs, h1, fzL_rel ho h2⟩
  | .int k n, v, h => by unfold fz; exact h
  | .bool b, v, h => by unfold fz; exact h
  | .str l, v, h => by unfold fz; exact h
  | .nilp, v, h => by unfold fz; exact h
  | .nils, v, h => by unfold fz; exact h
  | .und, v, h => by unfold fz; exact h
  | .anyb, v, h => by unfold fz; exact h
  | .ptr n off, v, h => by unfold fz; exact h
  | .ep n sz i j, v, h => by unfold fz; exact h
  | .rp m k, v, h => by unfold fz; exact h
  | .psl sz n f, v, h => by unfold fz; exact h
  | .cnd c x, v, h => by unfold fz; exact h
theorem fzL_rel (ho : ∀ (n c : Nat) (v : Value), n ≤ n' → CRel R w I (.own k s n) v → CRel R w I (.psl s n f) v) : ∀ {l : List AV} {vs : List Value}, CRelL R w I l vs → CRelL R w I (fzL k s n' f l) vs
  | [], vs, h => by unfold fzL; exact h
  | x :: r, vs, h => by
    unfold fzL; unfold CRelL at h ⊢
    obtain ⟨v, vr, h1, h2, h3⟩ := h
    exact ⟨v, vr, h1, fz_rel (fun n _ v => ho n 0 v) h2, fzL_rel ho h3⟩
end
end

theorem Ent.frz {K : Nat} {st : St} (k : Nat) {T s n' : Nat} {f : Nat → Nat → AV} (hk : st.h[k]? = some (.row T s n' f)) : Ent K st ⟨fzL k s n' f st.t, (st.h.map (fzO k s n' f)).set k .dead⟩ := by
  intro X R w I vs hX hs hv
  obtain ⟨hs0, ho⟩ := hs.obj k _ hk
  have hkl : k < st.h.length := (List.getElem?_eq_some_iff.1 hk).1
  -- the rest, where the values are told anew
  have rest : ∀ (I' : Nat → Prop), Sat X R w I' (st.h.set k .dead) → (∀ (n c : Nat) (v : Value), n ≤ n' → CRel R w I' (.own k s n) v → CRel R w I' (.psl s n f) v) → Sat X R w I' ((st.h.map (fzO k s n' f)).set k .dead) := by
    intro I' hs' hown
    have liveEq : ∀ i b, Live R ((st.h.map (fzO k s n' f)).set k .dead) i b → Live R (st.h.set k .dead) i b := by
      intro i b ⟨c, o, h1, h2, h3⟩
      by_cases hik : k = i
      · subst hik
        rw [List.getElem?_set_self (by simpa using hkl)] at h2
        cases h2; simp [AO.live] at h3
      · rw [List.getElem?_set_ne hik, List.getElem?_map, Option.map_eq_some_iff] at h2
        obtain ⟨o', h4, rfl⟩ := h2
        exact ⟨c, o', h1, by rw [List.getElem?_set_ne hik]; exact h4, by cases o' <;> simp_all [fzO, AO.live]⟩
    refine ⟨by simpa using hs'.len, hs'.pin, ?_, fun i j b hi hj => hs'.inj i j b (liveEq i b hi) (liveEq j b hj), fun i b hi => hs'.sep i b (liveEq i b hi), hs'.imm, hs'.i0, hs'.i0s, hs'.iN, hs'.fr, hs'.os, hs'.tape, hs'.output, hs'.size⟩
    intro i o hi
    by_cases hik : k = i
    · subst hik
      rw [List.getElem?_set_self (by simpa using hkl)] at hi
      cases hi; trivial
    · rw [List.getElem?_set_ne hik, List.getElem?_map, Option.map_eq_some_iff] at hi
      obtain ⟨o', h4, rfl⟩ := hi
      have := hs'.obj i o' (by rw [List.getElem?_set_ne hik]; exact h4)
      cases o' with
      | cells T cs =>
        obtain ⟨b, c, vs, h1, h2, h3⟩ := this
        exact ⟨b, c, vs, h1, h2, fzL_rel hown h3⟩
      | row T sz n g =>
        obtain ⟨hs, ho⟩ := this
        refine ⟨hs, ?_⟩
        rcases ho with ⟨h1, h2⟩ | ⟨b, c, vs, h1, h2, h3, h4, h5, h6⟩
        · exact .inl ⟨h1, h2⟩
        · refine .inr ⟨b, c, vs, h1, h2, h3, h4, h5, fun i j hi hj => ?_⟩
          obtain ⟨u, hu, hr⟩ := h6 i j hi hj
          exact ⟨u, hu, fz_rel hown hr⟩
      | siter => exact this
      | dead => trivial
  rcases ho with ⟨hR, h0⟩ | ⟨b, c, vs', hR, hg, hvs, hkc, hcm, hcell⟩
  · -- no memory
    have hown : ∀ (n c : Nat) (v : Value), n ≤ n' → CRel R w I (.own k s n) v → CRel R w I (.psl s n f) v := by
      intro n c v hn h
      unfold CRel at h ⊢
      rcases h with ⟨_, rfl, h⟩ | ⟨b, c, h1, _⟩
      · exact ⟨none, 0, h, Nat.le_refl _, by omega, fun h => absurd h (by omega)⟩
      · rw [hR] at h1; cases h1
    have hs' : Sat X R w I (st.h.set k .dead) := by
      have liveEq : ∀ i b, Live R (st.h.set k .dead) i b → Live R st.h i b := by
        intro i b ⟨c, o, h1, h2, h3⟩
        by_cases hik : k = i
        · subst hik
          rw [List.getElem?_set_self hkl] at h2
          cases h2; simp [AO.live] at h3
        · rw [List.getElem?_set_ne hik] at h2
          exact ⟨c, o, h1, h2, h3⟩
      refine ⟨by simpa using hs.len, hs.pin, ?_, fun i j b hi hj => hs.inj i j b (liveEq i b hi) (liveEq j b hj), fun i b hi => hs.sep i b (liveEq i b hi), hs.imm, hs.i0, hs.i0s, hs.iN, hs.fr, hs.os, hs.tape, hs.output, hs.size⟩
      intro i o hi
      by_cases hik : k = i
      · subst hik
        rw [List.getElem?_set_self hkl] at hi
        cases hi; trivial
      · rw [List.getElem?_set_ne hik] at hi; exact hs.obj i o hi
    exact ⟨R, I, rest I hs' hown, fzL_rel hown hv⟩
  · obtain ⟨hsat, hext⟩ := hs.frozen (w' := w) hR hk rfl (fun _ _ _ => rfl) rfl rfl rfl rfl
    have hown : ∀ (n c' : Nat) (v : Value), n ≤ n' → CRel R w (fun q => I q ∨ q = b) (.own k s n) v → CRel R w (fun q => I q ∨ q = b) (.psl s n f) v := by
      intro n c' v hn h
      unfold CRel at h ⊢
      rcases h with ⟨h1, _⟩ | ⟨b', c2, h1, h2, h3⟩
      · rw [hR] at h1; cases h1
      · rw [hR] at h1; cases h1
        refine ⟨_, c, h3, h2, by unfold maxLen at hcm; omega, fun _ => ⟨b, 0, rfl, .inr rfl, fun i j hi hj => ?_⟩⟩
        obtain ⟨u, hu, hr⟩ := hcell i j (by omega) hj
        exact ⟨u, by rw [Nat.zero_add, cell_of_block hg]; exact hu, hr.mono hext⟩
    exact ⟨R, _, rest _ hsat hown, fzL_rel hown (hv.mono hext)⟩
end Go.AM
