/- A part of the proof: lemmas. -/
import Derived.Test.YtdoekadmocabdaaAM13
set_option linter.unusedVariables false
set_option linter.unusedSimpArgs false
namespace Go.AM
section
variable {P : Program}

theorem APost.panic {X : Cx} {Q : Ex → St → Prop} (c : List PanicEntry) (a : Act) (w : World) : ¬ APost X Q (.panic c) a w := by
  rintro ⟨ex, s', R', I', h, _⟩
  cases h

/-- Where compiled code comes from. -/
def Inv (P : Program) (c : Code) : IC → Prop
  | .skip => c = .skip
  | .region l => ∃ id ops, c = .region id ops false ∧ ops.toList.map (cOper P ops.toList) = l
  | .draw l order rts dr => ∃ id ops, c = .region id ops true ∧ ops.toList.map (cOper P ops.toList) = l ∧ roots ops.toList = rts ∧ drops P ops = dr ∧ Region.noSelect ops = true ∧ sched P ops ops.size false (Array.replicate ops.size false) = some order
  | .seq x y => ∃ c1 c2, c = .seq c1 c2 ∧ compile P c1 = some x ∧ compile P c2 = some y
  | .cond d x y => ∃ d' c1 c2, c = .cond d' c1 c2 ∧ opdOf d' = some d ∧ compile P c1 = some x ∧ compile P c2 = some y
  | .block id x => ∃ c1, c = .block id c1 ∧ compile P c1 = some x
  | .loop x => ∃ c1, c = .loop c1 ∧ compile P c1 = some x
  | .exit id => c = .exit id
  | .ret => c = .ret

theorem compile_inv {c : Code} {ic : IC} (hc : compile P c = some ic) : Inv P c ic := by
  cases c with
  | skip => simp only [compile, Option.some.injEq] at hc; subst hc; exact rfl
  | region id ops d =>
    cases d with
    | false => simp only [compile, Option.some.injEq] at hc; subst hc; exact ⟨id, ops, rfl, rfl⟩
    | true =>
      simp only [compile] at hc
      split at hc
      · rename_i l h1 h2
        cases hc
        exact ⟨id, ops, rfl, rfl, rfl, rfl, h1, h2⟩
      · cases hc
  | seq a b =>
    simp only [compile] at hc
    split at hc
    · rename_i x y h1 h2
      cases hc
      exact ⟨a, b, rfl, h1, h2⟩
    · cases hc
  | cond d a b =>
    simp only [compile] at hc
    split at hc
    · rename_i d' x y h0 h1 h2
      cases hc
      exact ⟨d, a, b, rfl, h0, h1, h2⟩
    · cases hc
  | block id a =>
    simp only [compile, Option.map_eq_some_iff] at hc
    obtain ⟨x, hx, rfl⟩ := hc
    exact ⟨a, rfl, hx⟩
  | loop a =>
    simp only [compile, Option.map_eq_some_iff] at hc
    obtain ⟨x, hx, rfl⟩ := hc
    exact ⟨a, rfl, hx⟩
  | exit id => simp only [compile, Option.some.injEq] at hc; subst hc; exact rfl
  | ret => simp only [compile, Option.some.injEq] at hc; subst hc; exact rfl
  | _ => simp [compile] at hc

theorem aexec_sound (hm : P.follows .mixedOrders = true) {K : Nat} : ∀ (ic : IC) (Q : Ex → St → Prop) (s : St), aexec P K ic Q s → AWP P K ic Q s := by
  intro ic
  induction ic with
  | skip =>
    intro Q s h X R w I a c hK hc hs ht hd
    obtain rfl : c = .skip := compile_inv hc
    exact wp_skip ⟨.normal, s, R, I, rfl, h, hs, ht, hd⟩
  | region l =>
    intro Q s h X R w I a c hK hc hs ht hd
    obtain ⟨id, ops, rfl, hcc⟩ : ∃ id ops, c = .region id ops false ∧ ops.toList.map (cOper P ops.toList) = l := compile_inv hc
    exact wp_region_list (aops_sound (X := X) (K := Q .normal) (fun s' R' w' I' a' hk hs ht hd => ⟨.normal, s', R', I', rfl, hk, hs, ht, hd⟩) ops.toList s R w I a (by rw [hcc]; exact h) hs ht hd)
  | draw l order rts dr =>
    intro Q s h X R w I a c hK hc hs ht hd
    obtain ⟨id, ops, rfl, rfl, rfl, rfl, hsel, hsch⟩ : ∃ id ops, c = .region id ops true ∧ ops.toList.map (cOper P ops.toList) = l ∧ roots ops.toList = rts ∧ drops P ops = dr ∧ Region.noSelect ops = true ∧ sched P ops ops.size false (Array.replicate ops.size false) = some order := compile_inv hc
    have ht' : CRelL R { w with drawn := w.drawn + 1 } I s.t a.tmps.toList := CRelL.mono (w := w) (w' := { w with drawn := w.drawn + 1 }) ⟨List.prefix_rfl, fun _ h => h, fun _ _ => rfl⟩ ht
    exact wp_region_any hm (wpAny_of_G _ _ _ _ (draw_sound (X := X) (K := Q .normal) (Q := APost X Q) (Rs := R) (ws := { w with drawn := w.drawn + 1 }) (Is := I) (Hs := s.h) (hn := drawNames s (roots ops.toList)) (drawNames_live ht' _) hsel
      (fun s' R' w' I' a' hk hs ht hd => ⟨.normal, s', R', I', rfl, hk, hs, ht, hd⟩) (fun c a w => APost.panic c a w) ops.size false (Array.replicate ops.size false) order s R _ I a _ hsch h (hs.draw _) ht' hd (Ext.refl _ _ _) (fun _ => rfl)
      (.inl ⟨rfl, fun b hb => by simp [(drops_spec hb).1], keepH_refl _ _, ⟨fun _ _ => rfl, fun _ _ _ _ _ => rfl⟩⟩)))
  | seq x y ihx ihy =>
    intro Q s h X R w I a c hK hc hs ht hd
    obtain ⟨c1, c2, rfl, hx, hy⟩ : ∃ c1 c2, c = .seq c1 c2 ∧ compile P c1 = some x ∧ compile P c2 = some y := compile_inv hc
    refine wp_seq (wp_mono (ihx _ s h X R w I a c1 hK hx hs ht hd) ?_)
    rintro e a' w' ⟨ex, s', R', I', hex, hq, hs', ht', hd'⟩
    cases e <;> simp only [exOf, Option.some.injEq] at hex
    case normal => subst hex; exact ihy Q s' hq X R' w' I' a' c2 hK hy hs' ht' hd'
    case exit i => subst hex; exact ⟨.exit i, s', R', I', rfl, hq, hs', ht', hd'⟩
    case ret => subst hex; exact ⟨.ret, s', R', I', rfl, hq, hs', ht', hd'⟩
    all_goals (cases hex)
  | cond d x y ihx ihy =>
    intro Q s h X R w I a c hK hc hs ht hd
    obtain ⟨d', c1, c2, rfl, hd2, hx, hy⟩ : ∃ d' c1 c2, c = .cond d' c1 c2 ∧ opdOf d' = some d ∧ compile P c1 = some x ∧ compile P c2 = some y := compile_inv hc
    simp only [aexec] at h
    split at h
    · rename_i b hb
      have hev := ev_rel ht hd2
      rw [hb] at hev
      unfold CRel at hev
      cases b with
      | true => exact wp_cond_true hev (ihx Q s (h.1 rfl) X R w I a c1 hK hx hs ht hd)
      | false => exact wp_cond_false hev (ihy Q s (h.2 rfl) X R w I a c2 hK hy hs ht hd)
    · rename_i hb
      have hev := ev_rel ht hd2
      rw [hb] at hev
      unfold CRel at hev
      obtain ⟨b, hev⟩ := hev
      cases b with
      | true => exact wp_cond_true hev (ihx Q s h.1 X R w I a c1 hK hx hs ht hd)
      | false => exact wp_cond_false hev (ihy Q s h.2 X R w I a c2 hK hy hs ht hd)
    · exact h.elim
  | block id x ih =>
    intro Q s h X R w I a c hK hc hs ht hd
    obtain ⟨c1, rfl, hy⟩ : ∃ c1, c = .block id c1 ∧ compile P c1 = some x := compile_inv hc
    refine wp_block (wp_mono (ih _ s h X R w I a c1 hK hy hs ht hd) ?_)
    rintro e a' w' ⟨ex, s', R', I', hex, hq, hs', ht', hd'⟩
    cases e <;> simp only [exOf, Option.some.injEq] at hex
    case normal => subst hex; exact ⟨.normal, s', R', I', rfl, hq, hs', ht', hd'⟩
    case exit i =>
      subst hex
      simp only at hq
      simp only [Exit.inBlock]
      split at hq
      · rename_i hi
        rw [if_pos hi]
        exact ⟨.normal, s', R', I', rfl, hq, hs', ht', hd'⟩
      · rename_i hi
        rw [if_neg hi]
        exact ⟨.exit i, s', R', I', rfl, hq, hs', ht', hd'⟩
    case ret => subst hex; exact ⟨.ret, s', R', I', rfl, hq, hs', ht', hd'⟩
    all_goals (cases hex)
  | loop x ih =>
    intro Q s h
    exact h
  | exit id =>
    intro Q s h X R w I a c hK hc hs ht hd
    obtain rfl : c = .exit id := compile_inv hc
    exact wp_exit ⟨.exit _, s, R, I, rfl, h, hs, ht, hd⟩
  | ret =>
    intro Q s h X R w I a c hK hc hs ht hd
    obtain rfl : c = .ret := compile_inv hc
    exact wp_ret ⟨.ret, s, R, I, rfl, h, hs, ht, hd⟩

theorem AWP.mono {K : Nat} {ic : IC} {Q Q' : Ex → St → Prop} {s : St} (h : AWP P K ic Q s) (hq : ∀ e s, Q e s → Q' e s) : AWP P K ic Q' s :=
  fun X R w I a c hK hc hs ht hd => wp_mono (h X R w I a c hK hc hs ht hd) fun e a' w' ⟨ex, s', R', I', h1, h2, h3⟩ => ⟨ex, s', R', I', h1, hq _ _ h2, h3⟩

/-! ### Weaker states -/
/-- Whatever is told by the first state is told by the second one, under other names; the first 'K' names stay. -/
def Ent (K : Nat) (s s' : St) : Prop :=
  ∀ (X : Cx) (R : RL) (w : World) (I : Nat → Prop) (vs : List Value), X.R0.length = K → Sat X R w I s.h → CRelL R w I s.t vs → ∃ R' I', Sat X R' w I' s'.h ∧ CRelL R' w I' s'.t vs

theorem Ent.refl (K : Nat) (s : St) : Ent K s s := fun X R w I vs _ hs ht => ⟨R, I, hs, ht⟩
theorem Ent.trans {K : Nat} {s s' s'' : St} (h : Ent K s s') (k : Ent K s' s'') : Ent K s s'' := fun X R w I vs hK hs ht => by
  obtain ⟨R', I', h1, h2⟩ := h X R w I vs hK hs ht
  exact k X R' w I' vs hK h1 h2

theorem AWP.ent {K : Nat} {ic : IC} {Q : Ex → St → Prop} {s s' : St} (h : AWP P K ic Q s') (he : Ent K s s') : AWP P K ic Q s :=
  fun X R w I a c hK hc hs ht hd => by
    obtain ⟨R', I', h1, h2⟩ := he X R w I _ hK hs ht
    exact h X R' w I' a c hK hc h1 h2 hd

/-- The post, under a weaker state. -/
theorem AWP.post {K : Nat} {ic : IC} {Q Q' : Ex → St → Prop} {s : St} (h : AWP P K ic Q s) (hq : ∀ e s1, Q e s1 → ∃ s2, Ent K s1 s2 ∧ Q' e s2) : AWP P K ic Q' s :=
  fun X R w I a c hK hc hs ht hd => wp_mono (h X R w I a c hK hc hs ht hd) fun e a' w' ⟨ex, s', R', I', h1, h2, h3, h4, h5⟩ => by
    obtain ⟨s2, he, h6⟩ := hq _ _ h2
    obtain ⟨R2, I2, h7, h8⟩ := he X R' w' I' _ hK h3 h4
    exact ⟨ex, s2, R2, I2, h1, h6, h7, h8, h5⟩

/-- A loop: 'J d': the states at its head. -/
theorem AWP.loop {K : Nat} {b : IC} {Q : Ex → St → Prop} {s : St} {D : Type} (pre : D → Prop) (J : D → St) (μ : D → Nat) (d0 : D) (h0 : pre d0) (hs0 : Ent K s (J d0))
    (round : ∀ d, pre d → AWP P K b (fun e s' => match e with
      | .normal => ∃ d', pre d' ∧ μ d' < μ d ∧ Ent K s' (J d')
      | .exit i => Q (.exit i) s'
      | .ret => Q .ret s') (J d)) : AWP P K (.loop b) Q s := by
  intro X R w I a c hK hc hs ht hd
  obtain ⟨c1, rfl, hy⟩ : ∃ c1, c = .loop c1 ∧ compile P c1 = some b := compile_inv hc
  obtain ⟨R1, I1, h1, h2⟩ := hs0 X R w I _ hK hs ht
  refine wp_loop_ghost (fun n a w => ∃ d R I, pre d ∧ μ d = n ∧ Sat X R w I (J d).h ∧ CRelL R w I (J d).t a.tmps.toList ∧ a.defers = []) (μ d0) ⟨d0, R1, I1, h0, rfl, h1, h2, hd⟩ ?_
  rintro n a w ⟨d, R, I, hp, rfl, hs, ht, hd⟩
  refine wp_mono (round d hp X R w I a c1 hK hy hs ht hd) ?_
  rintro e a' w' ⟨ex, s', R', I', hex, hq, hs', ht', hd'⟩
  cases e <;> simp only [exOf, Option.some.injEq] at hex
  case normal =>
    subst hex
    obtain ⟨d', hp', hlt, hent⟩ := hq
    obtain ⟨R2, I2, h3, h4⟩ := hent X R' w' I' _ hK hs' ht'
    exact ⟨μ d', hlt, d', R2, I2, hp', rfl, h3, h4, hd'⟩
  case exit i => subst hex; exact ⟨.exit i, s', R', I', rfl, hq, hs', ht', hd'⟩
  case ret => subst hex; exact ⟨.ret, s', R', I', rfl, hq, hs', ht', hd'⟩
  all_goals (cases hex)

/-- A sequence, cut: 'J d': the states between. -/
theorem AWP.cut {K : Nat} {x y : IC} {Q : Ex → St → Prop} {s : St} {D : Type} (pre : D → Prop) (J : D → St)
    (hx : AWP P K x (fun e s' => match e with
      | .normal => ∃ d, pre d ∧ Ent K s' (J d)
      | .exit i => Q (.exit i) s'
      | .ret => Q .ret s') s) (hy : ∀ d, pre d → AWP P K y Q (J d)) : AWP P K (.seq x y) Q s := by
  intro X R w I a c hK hc hs ht hd
  obtain ⟨c1, c2, rfl, hx', hy'⟩ : ∃ c1 c2, c = .seq c1 c2 ∧ compile P c1 = some x ∧ compile P c2 = some y := compile_inv hc
  refine wp_seq (wp_mono (hx X R w I a c1 hK hx' hs ht hd) ?_)
  rintro e a' w' ⟨ex, s', R', I', hex, hq, hs', ht', hd'⟩
  cases e <;> simp only [exOf, Option.some.injEq] at hex
  case normal =>
    subst hex
    obtain ⟨d, hp, hent⟩ := hq
    obtain ⟨R2, I2, h3, h4⟩ := hent X R' w' I' _ hK hs' ht'
    exact hy d hp X R2 w' I2 a' c2 hK hy' h3 h4 hd'
  case exit i => subst hex; exact ⟨.exit i, s', R', I', rfl, hq, hs', ht', hd'⟩
  case ret => subst hex; exact ⟨.ret, s', R', I', rfl, hq, hs', ht', hd'⟩
  all_goals (cases hex)

/-! ### A function -/
inductive RV where
  | tmp (t : Nat)
  | cell (a : Nat) (sz : Option Nat)

def rvOf (P : Program) : ResultVar → Option RV
  | .tmp t => some (.tmp t)
  | .cell a t => (aggSz P t).map (.cell a)

/-- A result's value. -/
def rval (s : St) : RV → Option (Prop × AV)
  | .tmp t => some (True, s.t.getD t .und)
  | .cell a sz => (aLoad (s.t.getD a .und) sz s.h).map fun r => (r.sc, r.v)

/-- All results, one behind the other. -/
def rvals (s : St) : List RV → (List AV → Prop) → Prop
  | [], K => K []
  | x :: r, K => match rval s x with
    | none => False
    | some p => p.1 ∧ rvals s r (fun l => K (p.2 :: l))

/-- How results are handed back. -/
def pack : List AV → AV
  | [x] => x
  | l => .tup l

/-- What is asked where the body ends. -/
def aend (K : Nat) (rs : List RV) (post : AV → List AO → Prop) (e : Ex) (s : St) : Prop :=
  match e with
  | .exit _ => False
  | _ => rvals s rs fun l => ∃ r h', Ent K ⟨[pack l], s.h⟩ ⟨[r], h'⟩ ∧ post r h'

def resOne (tmps : Array Value) : ResultVar → Sem Value
  | .tmp t => pure (tmps.getD t undef)
  | .cell a t => do loadVar t (← asAddr (tmps.getD a undef))

theorem rvals_sound {X : Cx} {R : RL} {w : World} {I : Nat → Prop} {s : St} {tmps : Array Value} (hs : Sat X R w I s.h) (ht : CRelL R w I s.t tmps.toList) :
    ∀ (l : List ResultVar) (rs : List RV) (K : List AV → Prop), l.map (rvOf P) = rs.map some → rvals s rs K → ∃ vs avs, (l.mapM (resOne tmps)).run P w = .ok vs w ∧ CRelL R w I avs vs ∧ K avs
  | [], rs, K, hl, h => by
    cases rs with
    | nil => exact ⟨[], [], by simp, by unfold CRelL; rfl, h⟩
    | cons => simp at hl
  | x :: l, rs, K, hl, h => by
    cases rs with
    | nil => simp at hl
    | cons y rs =>
      simp only [List.map_cons, List.cons.injEq] at hl
      simp only [rvals] at h
      split at h
      · exact h.elim
      · rename_i p hp
        obtain ⟨hsc, h⟩ := h
        obtain ⟨vs, avs, h1, h2, h3⟩ := rvals_sound hs ht l rs _ hl.2 h
        have hone : ∃ v, (resOne tmps x).run P w = .ok v w ∧ CRel R w I p.2 v := by
          cases x with
          | tmp t =>
            simp only [rvOf, Option.some.injEq] at hl
            rw [← hl.1] at hp
            simp only [rval, Option.some.injEq] at hp
            subst hp
            refine ⟨tmps.getD t undef, by simp only [resOne, Sem.run_pure], ?_⟩
            have := ht.getD t
            simpa [Array.getD_eq_getD_getElem?, List.getD_eq_getElem?_getD] using this
          | cell a t =>
            simp only [rvOf, Option.map_eq_some_iff] at hl
            obtain ⟨sz, hsz, hy⟩ := hl.1
            rw [← hy] at hp
            simp only [rval, Option.map_eq_some_iff] at hp
            obtain ⟨r, hr, rfl⟩ := hp
            have hv := ht.getD a
            have hv' : CRel R w I (s.t.getD a .und) (tmps.getD a undef) := by simpa [Array.getD_eq_getD_getElem?, List.getD_eq_getElem?_getD] using hv
            obtain ⟨_, u, hrun, hcr⟩ := load_rel hsz hr hsc hv' hs.obj
            refine ⟨u, ?_, hcr⟩
            have hrun := hrun w (Wsame.refl _ _ _ _)
            simp only [resOne, Sem.run_bind]
            generalize tmps.getD a undef = q at hrun
            cases q with
            | pointer q =>
              cases q with
              | some ad => simpa [asAddr, Instr.loadAt, Instr.sureAddr] using hrun
              | none => simp [Instr.loadAt, Instr.sureAddr] at hrun
            | _ => simp [Instr.loadAt, Instr.sureAddr] at hrun
        obtain ⟨v, hv1, hv2⟩ := hone
        refine ⟨v :: vs, p.2 :: avs, ?_, by unfold CRelL; exact ⟨v, vs, rfl, hv2, h2⟩, h3⟩
        rw [List.mapM_cons]
        simp only [Sem.run_bind, hv1, Result.andThen_ok, h1, Sem.run_pure]

/-- The contract of a function, out of its code. -/
theorem aspec_of (hm : P.follows .mixedOrders = true) {f : FuncId} {fn : Func} {c : Code} {ic : IC} {rs : List RV} {args : List AV} {h : List AO} {post : AV → List AO → Prop} (hf : P.funcs[f]? = some fn) (hb : fn.body = some c) (hc : compile P c = some ic)
    (hrs : fn.results.toList.map (rvOf P) = rs.map some) {n : Nat} (hn : fn.ntmps = n) (hbody : aexec P h.length ic (aend h.length rs post) ⟨args ++ List.replicate (n - args.length) .und, h⟩) : ASpec P f args h post := by
  intro R w I vs hs ha
  have hlen := ha.length
  refine calls_of_wp hf hb ?_
  have ht : CRelL R w I (args ++ List.replicate (n - args.length) .und) (vs.toArray ++ Array.replicate (fn.ntmps - vs.toArray.size) undef).toList := by
    simp only [Array.toList_append, Array.toList_replicate, List.size_toArray, hn, hlen]
    refine CRelL.append ha ?_
    refine CRelL.of_get (by simp) fun i x v hx hv => ?_
    have : x = .und := by
      have := List.mem_of_getElem? hx
      exact (List.mem_replicate.1 this).2
    subst this
    unfold CRel; trivial
  refine wp_mono (aexec_sound hm ic _ _ hbody ⟨w, fun b => ∃ n, Live R h n b, I, R⟩ R w I _ c hs.len hc hs ht rfl) ?_
  rintro e a' w' ⟨ex, s', R', I', hex, hq, hs', ht', hd'⟩
  have fin : rvals s' rs (fun l => ∃ r h', Ent h.length ⟨[pack l], s'.h⟩ ⟨[r], h'⟩ ∧ post r h') → a'.defers = [] ∧ ∃ v, (results fn a'.tmps).run P w' = .ok v w' ∧ ∃ r h' v' R' I', post r h' ∧ Ending.returned v = .returned v' ∧ Sat ⟨w, fun b => ∃ n, Live R h n b, I, R⟩ R' w' I' h' ∧ CRel R' w' I' r v' := by
    intro hr
    obtain ⟨us, avs, hrun, hcr, r, h', hent, hpost⟩ := rvals_sound (P := P) hs' ht' fn.results.toList rs _ hrs hr
    refine ⟨hd', ?_⟩
    have hval : ∃ v, (results fn a'.tmps).run P w' = .ok v w' ∧ CRel R' w' I' (pack avs) v := by
      have hl := hcr.length
      have hres : results fn a'.tmps = (do
          let vs ← fn.results.mapM (resOne a'.tmps)
          pure (if h : vs.size = 1 then vs[0] else .tuple vs)) := by
        unfold results
        congr 1
      rw [hres, Array.mapM_eq_mapM_toList]
      simp only [Sem.run_bind, Sem.run_map, hrun, Result.andThen_ok, Sem.run_pure]
      refine ⟨_, rfl, ?_⟩
      match avs, us, hcr, hl with
      | [], [], _, _ =>
        simp only [pack]
        unfold CRel
        exact ⟨#[], by simp, by unfold CRelL; rfl⟩
      | [x], [u], hcr, _ =>
        unfold CRelL at hcr
        obtain ⟨v, vr, h1, h2, _⟩ := hcr
        cases h1
        simpa [pack] using h2
      | x :: y :: l, u :: v :: us, hcr, _ =>
        simp only [pack]
        unfold CRel
        exact ⟨(u :: v :: us).toArray, by simp, by simpa using hcr⟩
    obtain ⟨v, hv1, hv2⟩ := hval
    obtain ⟨R2, I2, h3, h4⟩ := hent _ R' w' I' [v] hs.len hs' (by unfold CRelL; exact ⟨v, [], rfl, hv2, by unfold CRelL; rfl⟩)
    unfold CRelL at h4
    obtain ⟨v2, vr, h5, h6, _⟩ := h4
    cases h5
    exact ⟨v, hv1, r, h', v, R2, I2, hpost, rfl, h3, h6⟩
  cases e <;> simp only [exOf, Option.some.injEq] at hex
  case normal => subst hex; exact fin hq
  case exit i => subst hex; exact hq.elim
  case ret => subst hex; exact fin hq
  all_goals (cases hex)
end
end Go.AM
