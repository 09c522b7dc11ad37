/- A part of the proof: lemmas. -/
import Derived.Test.YtdoekadmocabdaaAM16
set_option linter.unusedVariables false
set_option linter.unusedSimpArgs false
namespace Go.AM

/-- What the first objects tell, the second ones tell. -/
def AOles : List AO → List AO → Prop
  | [], [] => True
  | o :: r, o' :: r' => (o.live = o'.live ∧ AOle o o') ∧ AOles r r'
  | _, _ => False

theorem AOles.get : ∀ {os os' : List AO}, AOles os os' → os.length = os'.length ∧ ∀ (i : Nat) (o' : AO), os'[i]? = some o' → ∃ o, os[i]? = some o ∧ o.live = o'.live ∧ AOle o o'
  | [], [], _ => ⟨rfl, fun i o' h => by simp at h⟩
  | o :: r, o' :: r', h => by
    obtain ⟨h1, h2⟩ := h
    obtain ⟨h3, h4⟩ := AOles.get h2
    refine ⟨by simp [h3], fun i p hp => ?_⟩
    cases i with
    | zero => simp at hp; subst hp; exact ⟨o, rfl, h1⟩
    | succ i => simp at hp; simpa using h4 i p hp
  | [], _ :: _, h => h.elim
  | _ :: _, [], h => h.elim

theorem AOles.live {os os' : List AO} (h : AOles os os') (R : RL) (n b : Nat) : Live R os n b ↔ Live R os' n b := by
  obtain ⟨hl, hg⟩ := h.get
  constructor
  · intro ⟨c, o, h1, h2, h3⟩
    have hn : n < os'.length := by rw [← hl]; exact (List.getElem?_eq_some_iff.1 h2).1
    obtain ⟨p, h4, h5, _⟩ := hg n _ (List.getElem?_eq_getElem hn)
    rw [h2] at h4; cases h4
    exact ⟨c, _, h1, List.getElem?_eq_getElem hn, by rw [← h5]; exact h3⟩
  · intro ⟨c, o, h1, h2, h3⟩
    obtain ⟨p, h4, h5, _⟩ := hg n _ h2
    exact ⟨c, _, h1, h4, by rw [h5]; exact h3⟩

theorem Sat.le {X : Cx} {R : RL} {w : World} {I : Nat → Prop} {os os' : List AO} (h : Sat X R w I os) (hle : AOles os os') : Sat X R w I os' := by
  have hlive := hle.live R
  obtain ⟨hl, hg⟩ := hle.get
  exact ⟨h.len.trans hl, h.pin, fun n o ho => by
    obtain ⟨p, h1, _, h3⟩ := hg n o ho
    exact h3.rel (h.obj n p h1), fun m n b hm hn => h.inj m n b ((hlive m b).2 hm) ((hlive n b).2 hn), fun n b hn => h.sep n b ((hlive n b).2 hn), h.imm, h.i0, h.i0s, h.iN, h.fr, h.os, h.tape, h.output, h.size⟩

/-- A contract for what tells more. -/
theorem ASpec.pre {P : Program} {f : FuncId} {args : List AV} {os os' : List AO} {post : AV → List AO → Prop} (h : ASpec P f args os' post) (hle : AOles os os') : ASpec P f args os post := by
  intro R w I vs hs ha
  have e : (fun b => ∃ n, Live R os n b) = (fun b => ∃ n, Live R os' n b) := by
    funext b
    exact propext ⟨fun ⟨n, hn⟩ => ⟨n, (hle.live R n b).1 hn⟩, fun ⟨n, hn⟩ => ⟨n, (hle.live R n b).2 hn⟩⟩
  rw [e] at hs ⊢
  exact h R w I vs (hs.le hle) ha

theorem ASpec.post {P : Program} {f : FuncId} {args : List AV} {os : List AO} {post post' : AV → List AO → Prop} (h : ASpec P f args os post) (hp : ∀ r h, post r h → post' r h) : ASpec P f args os post' := by
  intro R w I vs hs ha
  exact (h R w I vs hs ha).mono fun e w' ⟨r, h', v, R', I', h1, h2⟩ => ⟨r, h', v, R', I', hp r h' h1, h2⟩
attribute [simp] AOles

/-- What a round comes to: a later head, or the loop's end. -/
def LQ {D : Type} (K : Nat) (pre : D → Prop) (J : D → St) (lt : D → Prop) (F : Ex → St → Prop) : Ex → St → Prop
  | .normal, s' => ∃ d', pre d' ∧ lt d' ∧ Ent K s' (J d')
  | .exit i, s' => F (.exit i) s'
  | .ret, s' => F .ret s'
section
variable {D : Type} {K : Nat} {pre : D → Prop} {J : D → St} {lt : D → Prop} {F : Ex → St → Prop} {s' : St} {i : Nat}
@[simp] theorem LQ_normal : LQ K pre J lt F .normal s' = ∃ d', pre d' ∧ lt d' ∧ Ent K s' (J d') := rfl
@[simp] theorem LQ_exit : LQ K pre J lt F (.exit i) s' = F (.exit i) s' := rfl
@[simp] theorem LQ_ret : LQ K pre J lt F .ret s' = F .ret s' := rfl
end
theorem AL.loop {P : Program} {K : Nat} {b : IC} {k : List Fr} {Q : Ex → St → Prop} {s : St} {D : Type} (hm : P.follows .mixedOrders = true) (pre : D → Prop) (J : D → St) (μ : D → Nat) (d0 : D) (h0 : pre d0) (hs0 : Ent K s (J d0))
    (round : ∀ F : Ex → St → Prop, (∀ e s', F e s' = kont P K k Q e s') → ∀ d, pre d → AX P K b [] (LQ K pre J (fun d' => μ d' < μ d) F) (J d)) : AL P K b k Q s := by
  refine AWP.loop pre J μ d0 h0 hs0 fun d hd => ?_
  refine (aexec_sound hm _ _ _ (AX_of (round (kont P K k Q) (fun _ _ => rfl) d hd))).mono fun e s' h => ?_
  cases e <;> exact h
end Go.AM
