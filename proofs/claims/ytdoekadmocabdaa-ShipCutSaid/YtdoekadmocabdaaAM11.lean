/- A part of the proof: lemmas. -/
import Derived.Test.YtdoekadmocabdaaAM10
set_option linter.unusedVariables false
set_option linter.unusedSimpArgs false
namespace Go.AM

/-! ### Running -/
def okOps (t : List AV) : List Opd → Prop
  | [] => True
  | x :: r => (ev t x).okc ∧ okOps t r

/-- None of 'kp' is among them. -/
def kpOk : List Nat → List Nat → Prop
  | [], _ => True
  | k :: r, l => k ∉ l ∧ kpOk r l

/-- The objects 'kp' are as they were. -/
def keepH : List Nat → List AO → List AO → Prop
  | [], _, _ => True
  | k :: r, h, h' => h'[k]? = h[k]? ∧ keepH r h h'

def putH (s : St) (h : List AO) (d : Option Nat) (v : AV) : St := match d with
  | some d => ⟨s.t.set d v, h⟩
  | none => ⟨s.t, h⟩

def astep (P : Program) (o : IOper) (e : Opd → AV) (kp : List Nat) (K : St → Prop) (s : St) : Prop :=
  match o.op with
  | .call f args => ACall P f (args.map e) s.h kp (fun v h => keepH kp s.h h ∧ K (putH s h o.dst v))
  | .callv f args => match e f with
    | .fn g cap => callable P g = true ∧ ACall P g (args.map e ++ cap) s.h kp (fun v h => keepH kp s.h h ∧ K (putH s h o.dst v))
    | _ => False
  | op => match aop op e (ev s.t) s.h with
    | none => False
    | some x => x.sc ∧ kpOk kp (aTouch op e) ∧ keepH kp s.h x.h ∧ K (putH s x.h o.dst x.v)

def bareE (s : St) (x : Opd) : AV := (ev s.t x).bare

/-- One operation. -/
def aone (P : Program) (o : IOper) (kp : List Nat) (K : St → Prop) (s : St) : Prop :=
  match o.guard with
  | none => astep P o (ev s.t) kp K s
  | some gd => match guardOf s.t gd with
    | none => False
    | some g =>
      match o.op.quiet with
      | true => match aop o.op (bareE s) (ev s.t) s.h with
        | none => g = false ∧ K (putH s s.h o.dst (.cnd false (.bool false)))
        | some x => (g = true → okOps s.t o.op.opds ∧ x.sc) ∧ K (putH s s.h o.dst (.cnd g x.v))
      | false => (g = true → okOps s.t o.op.opds ∧ astep P o (bareE s) kp K s) ∧ (g = false → K (putH s s.h o.dst (.cnd false (.bool false))))

def aops (P : Program) : List IOper → List Nat → (St → Prop) → St → Prop
  | [], _, K, s => K s
  | o :: r, kp, K, s => aone P o kp (aops P r kp K) s

/-- Is what is loaded among what is held? -/
def namesOk (late mem : Bool) (l hn : List Nat) : Prop :=
  match mem with
  | true => (∀ q, q ∈ l → q ∈ hn) ∧ (late = true → l ≠ [])
  | false => True

/-- A region that draws, in its order; 'hn': the objects that are held, till one of 'drop' comes up. -/
def adraw (P : Program) (ops : List IOper) (drop : List Nat) : List Nat → List (Nat × Bool) → Bool → (St → Prop) → St → Prop
  | hn, [], _, K, s => K s
  | hn, (i, false) :: r, _, K, s => match drop.contains i with
    | true => aone P (ops.getD i default) [] (adraw P ops drop [] r true K) s
    | false => aone P (ops.getD i default) hn (adraw P ops drop hn r true K) s
  | hn, (i, true) :: r, late, K, s =>
    let o := ops.getD i default
    match o.guard with
    | none => match aop o.op (ev s.t) (ev s.t) s.h with
      | none => False
      | some x => x.sc ∧ namesOk late o.op.mem (aNames o.op (ev s.t)) hn ∧ adraw P ops drop hn r late K (putH s s.h o.dst x.v)
    | some gd => match guardOf s.t gd with
      | none => False
      | some g => match aop o.op (bareE s) (ev s.t) s.h with
        | none => g = false ∧ adraw P ops drop hn r late K (putH s s.h o.dst (.cnd false (.bool false)))
        | some x => (g = true → okOps s.t o.op.opds ∧ x.sc ∧ namesOk late o.op.mem (aNames o.op (bareE s)) hn) ∧ adraw P ops drop hn r late K (putH s s.h o.dst (.cnd g x.v))

/-- The live objects to which slots point. -/
def drawNames (s : St) : List Nat → List Nat
  | [] => []
  | t :: r => match s.t.getD t .und with
    | .ptr n _ => if ((s.h.getD n .dead).live) then n :: drawNames s r else drawNames s r
    | .ep n _ _ _ => if ((s.h.getD n .dead).live) then n :: drawNames s r else drawNames s r
    | .own n _ len => if ((s.h.getD n .dead).live) = true ∧ 0 < len then n :: drawNames s r else drawNames s r
    | _ => drawNames s r

def exOf : Exit → Option Ex
  | .normal => some .normal
  | .exit i => some (.exit i)
  | .ret => some .ret
  | _ => none

def APost (X : Cx) (Q : Ex → St → Prop) (e : Exit) (a' : Act) (w' : World) : Prop :=
  ∃ ex s' R' I', exOf e = some ex ∧ Q ex s' ∧ Sat X R' w' I' s'.h ∧ CRelL R' w' I' s'.t a'.tmps.toList ∧ a'.defers = []

def AWP (P : Program) (K : Nat) (ic : IC) (Q : Ex → St → Prop) (s : St) : Prop :=
  ∀ (X : Cx) (R : RL) (w : World) (I : Nat → Prop) (a : Act) (c : Code), X.R0.length = K → compile P c = some ic → Sat X R w I s.h → CRelL R w I s.t a.tmps.toList → a.defers = [] → c.wp P (APost X Q) a w

def aexec (P : Program) (K : Nat) : IC → (Ex → St → Prop) → St → Prop
  | .skip, Q, s => Q .normal s
  | .region ops, Q, s => aops P ops [] (Q .normal) s
  | .draw ops order rts drop, Q, s => adraw P ops drop (drawNames s rts) order false (Q .normal) s
  | .seq a b, Q, s => aexec P K a (fun e s' => match e with
    | .normal => aexec P K b Q s'
    | .exit i => Q (.exit i) s'
    | .ret => Q .ret s') s
  | .cond c x y, Q, s => match ev s.t c with
    | .bool b => (b = true → aexec P K x Q s) ∧ (b = false → aexec P K y Q s)
    | .anyb => aexec P K x Q s ∧ aexec P K y Q s
    | _ => False
  | .block id b, Q, s => aexec P K b (fun e s' => match e with
    | .normal => Q .normal s'
    | .exit i => if i = id then Q .normal s' else Q (.exit i) s'
    | .ret => Q .ret s') s
  | .loop b, Q, s => AWP P K (.loop b) Q s
  | .exit id, Q, s => Q (.exit id) s
  | .ret, Q, s => Q .ret s

/-! ### Soundness -/
section
variable {P : Program} {X : Cx} {R : RL} {w : World} {I : Nat → Prop} {s : St} {a : Act}

theorem keepH_get : ∀ {kp : List Nat} {h h' : List AO}, keepH kp h h' → ∀ k, k ∈ kp → h'[k]? = h[k]?
  | [], h, h', _, k, hk => by cases hk
  | k :: r, h, h', hh, q, hq => by
    rcases List.mem_cons.1 hq with rfl | hq
    · exact hh.1
    · exact keepH_get hh.2 q hq

theorem kpOk_get : ∀ {kp l : List Nat}, kpOk kp l → ∀ k, k ∈ kp → k ∉ l
  | [], l, _, k, hk => by cases hk
  | k :: r, l, hh, q, hq => by
    rcases List.mem_cons.1 hq with rfl | hq
    · exact hh.1
    · exact kpOk_get hh.2 q hq

theorem put_rel {t : List AV} {d : Option Nat} {x : AV} {v : Value} (ht : CRelL R w I t a.tmps.toList) (hx : CRel R w I x v) (h : List AO) (s : St) (hst : s.t = t) : CRelL R w I (putH s h d x).t (a.put d v).tmps.toList := by
  subst hst
  cases d with
  | none => exact ht
  | some d =>
    simp only [putH, Act.put, Array.toList_setIfInBounds]
    exact ht.set d hx

theorem putH_h (s : St) (h : List AO) (d : Option Nat) (v : AV) : (putH s h d v).h = h := by cases d <;> rfl

theorem put_defers (a : Act) (d : Option Nat) (v : Value) : (a.put d v).defers = a.defers := by cases d <;> rfl

theorem bare_rel {x : AV} {v : Value} (h : CRel R w I x v) (ho : x.okc) : CRel R w I x.bare v := by
  cases x <;> simp [AV.bare] at *
  all_goals first | exact h | skip
  unfold CRel at h
  exact h.1 ho

theorem okOps_get : ∀ {l : List Opd}, okOps s.t l → ∀ x, x ∈ l → (ev s.t x).okc
  | [], _, x, hx => by cases hx
  | y :: r, h, x, hx => by
    rcases List.mem_cons.1 hx with rfl | hx
    · exact h.1
    · exact okOps_get h.2 x hx

/-- What the model asks of a guard. -/
theorem guard_rel {ops : Array Oper} {o : Oper} {j : Nat} {want g : Bool} (ht : CRelL R w I s.t a.tmps.toList) (hg : o.guard = some (j, want)) (h : guardOf s.t ((ops.toList[j]?).bind (·.dst), want) = some g) :
    Region.wanted o (yielded ops a.tmps) = g := by
  unfold guardOf at h
  unfold Region.wanted
  rw [hg]
  simp only
  unfold yielded
  cases hd : (ops[j]?).bind (·.dst) with
  | none =>
    have : (ops.toList[j]?).bind (·.dst) = none := by simpa using hd
    simp only [this] at h
    cases h
  | some d =>
    have hd' : (ops.toList[j]?).bind (·.dst) = some d := by simpa using hd
    simp only [hd'] at h
    simp only [Option.bind_some]
    have hx := ht.getD d
    have hlen := ht.length
    simp only [Array.length_toList] at hlen
    split at h
    · rename_i b hb
      cases h
      have hlt : d < s.t.length := by
        refine Nat.lt_of_not_le fun hle => ?_
        rw [List.getD_eq_getElem?_getD, List.getElem?_eq_none hle] at hb
        cases hb
      rw [hb] at hx
      unfold CRel at hx
      have hlt2 : d < a.tmps.size := by rw [hlen]; exact hlt
      have : a.tmps[d]? = some (.bool b) := by
        rw [Array.getElem?_eq_getElem hlt2]
        simpa [Array.getElem?_eq_getElem hlt2] using hx
      rw [this]
      cases b <;> cases want <;> rfl
    · rename_i c b hb
      cases h
      have hlt : d < s.t.length := by
        refine Nat.lt_of_not_le fun hle => ?_
        rw [List.getD_eq_getElem?_getD, List.getElem?_eq_none hle] at hb
        cases hb
      rw [hb] at hx
      have hlt2 : d < a.tmps.size := by rw [hlen]; exact hlt
      have hget : a.tmps[d]? = some (a.tmps.toList.getD d undef) := by
        rw [Array.getElem?_eq_getElem hlt2]
        simp [Array.getElem?_eq_getElem hlt2]
      rw [hget]
      unfold CRel at hx
      cases c with
      | true =>
        have := hx.1 rfl
        unfold CRel at this
        rw [this]
        cases b <;> cases want <;> rfl
      | false =>
        rw [hx.2 rfl]
        cases b <;> cases want <;> rfl
    · cases h

theorem he_raw (ht : CRelL R w I s.t a.tmps.toList) (op : IOp) : ∀ x z, opdOf x = some z → z ∈ op.opds → CRel R w I (ev s.t z) (a.eval x) := fun x z hx _ => ev_rel ht hx
theorem he_raw0 (ht : CRelL R w I s.t a.tmps.toList) : ∀ x z, opdOf x = some z → CRel R w I (ev s.t z) (a.eval x) := fun x z hx => ev_rel ht hx
theorem he_bare (ht : CRelL R w I s.t a.tmps.toList) {op : IOp} (ho : okOps s.t op.opds) : ∀ x z, opdOf x = some z → z ∈ op.opds → CRel R w I (bareE s z) (a.eval x) :=
  fun x z hx hz => bare_rel (ev_rel ht hx) (okOps_get ho z hz)

theorem run_callFunc {f : FuncId} (h : callable P f = true) (args : Array Value) (w2 : World) : (callFunc f args).run P w2 = .ok (.enter f args) w2 := by
  unfold callable at h
  split at h
  · rename_i fn hf
    simp only [Bool.and_eq_true, bne_iff_ne, ne_eq] at h
    obtain ⟨h1, h2⟩ := h
    have h3 : (fn.name == "runtime.NumGoroutine") = false := by simpa using h2
    cases hb : fn.body with
    | none => rw [hb] at h1; simp at h1
    | some c => simp [callFunc, hf, h2, hb]
  · cases h

theorem run_call {o : Oper} {f : FuncId} {args : List Opd} (hc : cOp P o = some (.call f args)) : ∃ xs : List Operand, xs.map opdOf = args.map some ∧ ∀ (a : Act) w2, (execOp a.eval o).run P w2 = .ok (.enter f (xs.map a.eval).toArray) w2 := by
  obtain ⟨dst, op', ty, pos, after, guard⟩ := o
  cases op' <;> simp only [cOp] at hc
  case call c =>
    obtain ⟨callee, as, tys⟩ := c
    unfold cCall at hc
    split at hc
    · rename_i os hos
      cases callee with
      | builtin b =>
        simp only at hc
        unfold cBuiltin at hc
        repeat' split at hc
        all_goals (cases hc)
      | value g =>
        cases g with
        | func f' =>
          simp only at hc
          split at hc
          · rename_i hcall
            cases hc
            refine ⟨as.toList, allS_eq hos, fun a w2 => ?_⟩
            have := run_callFunc (P := P) hcall (as.map a.eval) w2
            have e2 : (as.toList.map a.eval).toArray = as.map a.eval := by
              apply Array.ext'; simp
            rw [e2]
            simp [execOp, resolve, Act.eval, Deferred.ofValue, invoke]
            simpa [Act.eval] using this
          · cases hc
        | tmp t => obtain ⟨y, hy, h2⟩ := Option.map_eq_some_iff.1 hc; cases h2
        | const t => obtain ⟨y, hy, h2⟩ := Option.map_eq_some_iff.1 hc; cases h2
        | global t => obtain ⟨y, hy, h2⟩ := Option.map_eq_some_iff.1 hc; cases h2
      | invoke r m => simp at hc
    · cases hc
  case binOp => unfold cBin at hc; (repeat' split at hc); all_goals (cases hc)
  case convert => unfold cConv at hc; (repeat' split at hc); all_goals (cases hc)
  case slice => unfold cSlice at hc; (repeat' split at hc); all_goals (cases hc)
  case build =>
    unfold cBuild at hc
    repeat' split at hc
    all_goals first | (cases hc; done) | (obtain ⟨y, hy, h2⟩ := Option.map_eq_some_iff.1 hc; cases h2)
  case buildSlice => unfold cBslice at hc; (repeat' split at hc); all_goals (cases hc)
  case makeFunc =>
    unfold cMkf at hc
    repeat' split at hc
    all_goals first | (cases hc; done) | (obtain ⟨y, hy, h2⟩ := Option.map_eq_some_iff.1 hc; cases h2)
  all_goals
    (repeat' split at hc)
    all_goals first | (cases hc; done) | (obtain ⟨y, hy, h2⟩ := Option.map_eq_some_iff.1 hc; cases h2)

theorem run_callv {o : Oper} {g : Opd} {args : List Opd} (hc : cOp P o = some (.callv g args)) : ∃ (gx : Operand) (xs : List Operand), opdOf gx = some g ∧ xs.map opdOf = args.map some ∧
    ∀ (a : Act) (f : FuncId) (cap : Array Value) w2, a.eval gx = .func (.func f) #[] cap → callable P f = true → (execOp a.eval o).run P w2 = .ok (.enter f ((xs.map a.eval) ++ cap.toList).toArray) w2 := by
  obtain ⟨dst, op', ty, pos, after, guard⟩ := o
  cases op' <;> simp only [cOp] at hc
  case call c =>
    obtain ⟨callee, as, tys⟩ := c
    unfold cCall at hc
    split at hc
    · rename_i os hos
      have main : ∀ gx, callee = .value gx → opdOf gx = some g → args = os → ∃ (gx : Operand) (xs : List Operand), opdOf gx = some g ∧ xs.map opdOf = args.map some ∧
          ∀ (a : Act) (f : FuncId) (cap : Array Value) w2, a.eval gx = .func (.func f) #[] cap → callable P f = true → (execOp a.eval ⟨dst, .call ⟨callee, as, tys⟩, ty, pos, after, guard⟩).run P w2 = .ok (.enter f ((xs.map a.eval) ++ cap.toList).toArray) w2 := by
        intro gx h1 h2 h3
        subst h3
        refine ⟨gx, as.toList, h2, allS_eq hos, fun a f cap w2 he hcall => ?_⟩
        have := run_callFunc (P := P) hcall (as.map a.eval ++ cap) w2
        have e2 : ((as.toList.map a.eval) ++ cap.toList).toArray = as.map a.eval ++ cap := by
          apply Array.ext'; simp
        rw [e2]
        subst h1
        simp [execOp, resolve, he, Deferred.ofValue, invoke]
        simpa using this
      cases callee with
      | builtin b =>
        simp only at hc
        unfold cBuiltin at hc
        repeat' split at hc
        all_goals (cases hc)
      | value gg =>
        cases gg with
        | func f' => simp only at hc; split at hc <;> cases hc
        | tmp t => obtain ⟨y, hy, h2⟩ := Option.map_eq_some_iff.1 hc; cases h2; exact main _ rfl hy rfl
        | const t => obtain ⟨y, hy, h2⟩ := Option.map_eq_some_iff.1 hc; cases h2; exact main _ rfl hy rfl
        | global t => obtain ⟨y, hy, h2⟩ := Option.map_eq_some_iff.1 hc; cases h2; exact main _ rfl hy rfl
      | invoke r m => simp at hc
    · cases hc
  case binOp => unfold cBin at hc; (repeat' split at hc); all_goals (cases hc)
  case convert => unfold cConv at hc; (repeat' split at hc); all_goals (cases hc)
  case slice => unfold cSlice at hc; (repeat' split at hc); all_goals (cases hc)
  case build =>
    unfold cBuild at hc
    repeat' split at hc
    all_goals first | (cases hc; done) | (obtain ⟨y, hy, h2⟩ := Option.map_eq_some_iff.1 hc; cases h2)
  case buildSlice => unfold cBslice at hc; (repeat' split at hc); all_goals (cases hc)
  case makeFunc =>
    unfold cMkf at hc
    repeat' split at hc
    all_goals first | (cases hc; done) | (obtain ⟨y, hy, h2⟩ := Option.map_eq_some_iff.1 hc; cases h2)
  all_goals
    (repeat' split at hc)
    all_goals first | (cases hc; done) | (obtain ⟨y, hy, h2⟩ := Option.map_eq_some_iff.1 hc; cases h2)
end
end Go.AM
