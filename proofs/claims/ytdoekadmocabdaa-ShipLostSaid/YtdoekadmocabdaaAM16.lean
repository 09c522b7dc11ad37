/- A part of the proof: lemmas. -/
import Derived.Test.YtdoekadmocabdaaAM15
set_option linter.unusedVariables false
set_option linter.unusedSimpArgs false
namespace Go.AM

theorem ACall.args {P : Program} {f : FuncId} {args args' : List AV} {H : List AO} {kp : List Nat} {post : AV → List AO → Prop} (h : ACall P f args' H kp post) (ha : AVles args args') : ACall P f args H kp post :=
  fun X R w I vs hs hr => h X R w I vs hs (ha.rel hr)

theorem disj_of {m : List Nat} : ∀ {kp : List Nat}, kpOk kp m → ∀ n, n ∈ kp → n ∉ m
  | [], _, n, h => by cases h
  | k :: r, h, n, hn => by
    rcases List.mem_cons.1 hn with rfl | hn
    · exact h.1
    · exact disj_of h.2 n hn

/-- A call, by a contract; 'm': where the callee's objects lie. -/
theorem ACall.of {P : Program} {f : FuncId} {args : List AV} {H h : List AO} {kp : List Nat} {post' post : AV → List AO → Prop} (m : List Nat) (args' : List AV) (hs : ASpec P f args' h post')
    (hmd : m.Nodup) (hH : m.map (fun n => H[n]?) = h.map (fun o => some (renO (nm m H.length) o)))
    (hargs : AVles args (renL (nm m H.length) args')) (hkp : kpOk kp m) (hpost : ∀ r h', post' r h' → h.length ≤ h'.length → post (ren (nm m H.length) r) (behindH H m h')) : ACall P f args H kp post := by
  have hml : m.length = h.length := by simpa using congrArg List.length hH
  have hat : ∀ (i n : Nat) (o : AO), m[i]? = some n → h[i]? = some o → H[n]? = some (renO (nm m H.length) o) := by
    intro i n o h1 h2
    have := congrArg (fun l => l[i]?) hH
    simpa [h1, h2] using this
  refine ACall.args (ACall.of_spec m args' hs hml hmd ?_ hat rfl (disj_of hkp) hpost) hargs
  intro n hn
  obtain ⟨i, hi⟩ := List.mem_iff_getElem?.1 hn
  have hil : i < h.length := by rw [← hml]; exact (List.getElem?_eq_some_iff.1 hi).1
  exact (List.getElem?_eq_some_iff.1 (hat i n _ hi (List.getElem?_eq_getElem hil))).1

/-- The same, where the contract tells the one end. -/
theorem ACall.det {P : Program} {f : FuncId} {args : List AV} {H h h0 : List AO} {kp : List Nat} {post : AV → List AO → Prop} {r0 : AV} (m : List Nat) (args' : List AV) (hs : ASpec P f args' h (fun r h' => r = r0 ∧ h' = h0))
    (hmd : m.Nodup) (hH : m.map (fun n => H[n]?) = h.map (fun o => some (renO (nm m H.length) o)))
    (hargs : AVles args (renL (nm m H.length) args')) (hkp : kpOk kp m) (hpost : post (ren (nm m H.length) r0) (behindH H m h0)) : ACall P f args H kp post :=
  ACall.of m args' hs hmd hH hargs hkp fun r h' hr _ => by
    obtain ⟨rfl, rfl⟩ := hr; exact hpost

/-- A function without objects. -/
theorem ACall.plain {P : Program} {f : FuncId} {args : List AV} {H : List AO} {kp : List Nat} {post : AV → List AO → Prop} {r0 : AV} (args' : List AV) (hs : ASpec P f args' [] (fun r h' => r = r0 ∧ h' = []))
    (hargs : AVles args (renL (nm [] H.length) args')) (hpost : post (ren (nm [] H.length) r0) H) : ACall P f args H kp post :=
  ACall.det [] args' hs List.nodup_nil rfl hargs (by
    have : ∀ kp : List Nat, kpOk kp [] := fun kp => by
      induction kp with
      | nil => trivial
      | cons k r ih => exact ⟨by simp, ih⟩
    exact this kp) (by simpa [behindH, putNames] using hpost)
end Go.AM

/-! ### Running, step by step: what is left to do is a list, no function -/
namespace Go.AM
inductive Fr where
  | seq (b : IC)
  | blk (id : Nat)

section
variable (P : Program) (K : Nat)
def kont : List Fr → (Ex → St → Prop) → Ex → St → Prop
  | [], Q, e, s => Q e s
  | .seq b :: k, Q, e, s => match e with
    | .normal => aexec P K b (kont k Q) s
    | .exit i => kont k Q (.exit i) s
    | .ret => kont k Q .ret s
  | .blk id :: k, Q, e, s => match e with
    | .normal => kont k Q .normal s
    | .exit i => if i = id then kont k Q .normal s else kont k Q (.exit i) s
    | .ret => kont k Q .ret s

def AX (ic : IC) (k : List Fr) (Q : Ex → St → Prop) (s : St) : Prop := aexec P K ic (kont P K k Q) s
def AL (b : IC) (k : List Fr) (Q : Ex → St → Prop) (s : St) : Prop := AWP P K (.loop b) (kont P K k Q) s
/-- What is done behind an operation: nothing but what follows in its region. -/
inductive Nxt where
  | ops (r : List IOper)
  | draw (all : List IOper) (drop hn : List Nat) (r : List (Nat × Bool))

def Nxt.run (n : Nxt) (k : List Fr) (Q : Ex → St → Prop) (s : St) : Prop :=
  match n with
  | .ops r => aops P r [] (kont P K k Q .normal) s
  | .draw all drop hn r => adraw P all drop hn r true (kont P K k Q .normal) s

def APs (r : List IOper) (k : List Fr) (Q : Ex → St → Prop) (s : St) : Prop := aops P r [] (kont P K k Q .normal) s
def AD (all : List IOper) (drop hn : List Nat) (r : List (Nat × Bool)) (late : Bool) (k : List Fr) (Q : Ex → St → Prop) (s : St) : Prop := adraw P all drop hn r late (kont P K k Q .normal) s

/-- A call that is to be shown. -/
def AC (f : Nat) (args : List AV) (kp : List Nat) (dst : Option Nat) (n : Nxt) (k : List Fr) (Q : Ex → St → Prop) (s : St) : Prop :=
  ACall P f args s.h kp (fun v h => keepH kp s.h h ∧ n.run P K k Q (putH s h dst v))

/-- Behind a value. -/
def AV1 (x : Option SR) (kp : List Nat) (touch : List Nat) (dst : Option Nat) (n : Nxt) (k : List Fr) (Q : Ex → St → Prop) (s : St) : Prop :=
  match x with
  | none => False
  | some x => x.sc ∧ kpOk kp touch ∧ keepH kp s.h x.h ∧ n.run P K k Q (putH s x.h dst x.v)

def callvK (f : AV) (args : List AV) (kp : List Nat) (dst : Option Nat) (n : Nxt) (k : List Fr) (Q : Ex → St → Prop) (s : St) : Prop :=
  match f with
  | .fn g cap => callable P g = true ∧ AC P K g (args ++ cap) kp dst n k Q s
  | _ => False

/-- A step that may write. -/
def AT (o : IOper) (e : Opd → AV) (kp : List Nat) (n : Nxt) (k : List Fr) (Q : Ex → St → Prop) (s : St) : Prop :=
  astep P o e kp (n.run P K k Q) s

/-- One under a guard. -/
def AG (g : Option Bool) (o : IOper) (kp : List Nat) (n : Nxt) (k : List Fr) (Q : Ex → St → Prop) (s : St) : Prop :=
  match g with
  | none => False
  | some g =>
    match o.op.quiet with
    | true => match aop o.op (bareE s) (ev s.t) s.h with
      | none => g = false ∧ n.run P K k Q (putH s s.h o.dst (.cnd false (.bool false)))
      | some x => (g = true → okOps s.t o.op.opds ∧ x.sc) ∧ n.run P K k Q (putH s s.h o.dst (.cnd g x.v))
    | false => (g = true → okOps s.t o.op.opds ∧ AT P K o (bareE s) kp n k Q s) ∧ (g = false → n.run P K k Q (putH s s.h o.dst (.cnd false (.bool false))))

def AN (o : IOper) (kp : List Nat) (n : Nxt) (k : List Fr) (Q : Ex → St → Prop) (s : St) : Prop := aone P o kp (n.run P K k Q) s

variable {P K} {k : List Fr} {Q : Ex → St → Prop} {s : St}
theorem AX_skip : AX P K .skip k Q s = kont P K k Q .normal s := rfl
theorem AX_seq {a b} : AX P K (.seq a b) k Q s = AX P K a (.seq b :: k) Q s := by
  unfold AX
  simp only [aexec]
  congr 1
theorem AX_block {id b} : AX P K (.block id b) k Q s = AX P K b (.blk id :: k) Q s := by
  unfold AX
  simp only [aexec]
  congr 1
theorem AX_loop {b} : AX P K (.loop b) k Q s = AL P K b k Q s := rfl
theorem AX_exit {i} : AX P K (.exit i) k Q s = kont P K k Q (.exit i) s := rfl
theorem AX_ret : AX P K .ret k Q s = kont P K k Q .ret s := rfl
theorem AX_region {r} : AX P K (.region r) k Q s = APs P K r k Q s := rfl
theorem AX_draw {l order rts drop} : AX P K (.draw l order rts drop) k Q s = AD P K l drop (drawNames s rts) order false k Q s := rfl
def AB (v : AV) (x y : IC) (k : List Fr) (Q : Ex → St → Prop) (s : St) : Prop :=
  match v with
  | .bool b => (b = true → AX P K x k Q s) ∧ (b = false → AX P K y k Q s)
  | .anyb => AX P K x k Q s ∧ AX P K y k Q s
  | _ => False
theorem AX_cond {c x y} : AX P K (.cond c x y) k Q s = AB (P := P) (K := K) (ev s.t c) x y k Q s := rfl
theorem AB_anyb {x y} : AB (P := P) (K := K) .anyb x y k Q s = (AX P K x k Q s ∧ AX P K y k Q s) := rfl
theorem AB_bool {b x y} : AB (P := P) (K := K) (.bool b) x y k Q s = ((b = true → AX P K x k Q s) ∧ (b = false → AX P K y k Q s)) := rfl
theorem k_nil {e} : kont P K [] Q e s = Q e s := rfl
theorem k_seq {b} : kont P K (.seq b :: k) Q .normal s = AX P K b k Q s := rfl
theorem k_seqE {b i} : kont P K (.seq b :: k) Q (.exit i) s = kont P K k Q (.exit i) s := rfl
theorem k_seqR {b} : kont P K (.seq b :: k) Q .ret s = kont P K k Q .ret s := rfl
theorem k_blk {i} : kont P K (.blk i :: k) Q .normal s = kont P K k Q .normal s := rfl
theorem k_blkE {i j} : kont P K (.blk i :: k) Q (.exit j) s = if j = i then kont P K k Q .normal s else kont P K k Q (.exit j) s := rfl
theorem k_blkR {i} : kont P K (.blk i :: k) Q .ret s = kont P K k Q .ret s := rfl
theorem APs_nil : APs P K [] k Q s = kont P K k Q .normal s := rfl
theorem APs_cons {o r} : APs P K (o :: r) k Q s = AN P K o [] (.ops r) k Q s := rfl
theorem run_ops {r} : Nxt.run P K (.ops r) k Q s = APs P K r k Q s := rfl
theorem run_draw {all drop hn r} : Nxt.run P K (.draw all drop hn r) k Q s = AD P K all drop hn r true k Q s := rfl
theorem AN_none {d op kp n} : AN P K ⟨d, op, none⟩ kp n k Q s = AT P K ⟨d, op, none⟩ (ev s.t) kp n k Q s := rfl
theorem AN_some {d op g kp n} : AN P K ⟨d, op, some g⟩ kp n k Q s = AG P K (guardOf s.t g) ⟨d, op, some g⟩ kp n k Q s := by
  unfold AN AG aone
  simp only
  cases guardOf s.t g with
  | none => rfl
  | some b =>
    simp only
    cases op.quiet <;> rfl
theorem AT_call {d f args g e kp n} : AT P K ⟨d, .call f args, g⟩ e kp n k Q s = AC P K f (args.map e) kp d n k Q s := rfl
theorem AT_callv {d f args g e kp n} : AT P K ⟨d, .callv f args, g⟩ e kp n k Q s = callvK P K (e f) (args.map e) kp d n k Q s := by
  unfold AT astep callvK
  simp only
  cases e f <;> rfl
theorem AT_mv {d x' g e kp} {nx' : Nxt} : AT P K ⟨d, .mv x', g⟩ e kp nx' k Q s = AV1 P K (aop (.mv x') e (ev s.t) s.h) kp (aTouch (.mv x') e) d nx' k Q s := rfl
theorem AT_pick {d c' a' b' g e kp} {nx' : Nxt} : AT P K ⟨d, .pick c' a' b', g⟩ e kp nx' k Q s = AV1 P K (aop (.pick c' a' b') e (ev s.t) s.h) kp (aTouch (.pick c' a' b') e) d nx' k Q s := rfl
theorem AT_alloc {d T' z' g e kp} {nx' : Nxt} : AT P K ⟨d, .alloc T' z', g⟩ e kp nx' k Q s = AV1 P K (aop (.alloc T' z') e (ev s.t) s.h) kp (aTouch (.alloc T' z') e) d nx' k Q s := rfl
theorem AT_box {d T' x' g e kp} {nx' : Nxt} : AT P K ⟨d, .box T' x', g⟩ e kp nx' k Q s = AV1 P K (aop (.box T' x') e (ev s.t) s.h) kp (aTouch (.box T' x') e) d nx' k Q s := rfl
theorem AT_build {d z' ps' g e kp} {nx' : Nxt} : AT P K ⟨d, .build z' ps', g⟩ e kp nx' k Q s = AV1 P K (aop (.build z' ps') e (ev s.t) s.h) kp (aTouch (.build z' ps') e) d nx' k Q s := rfl
theorem AT_bslice {d T' sz' l' z' ps' g e kp} {nx' : Nxt} : AT P K ⟨d, .bslice T' sz' l' z' ps', g⟩ e kp nx' k Q s = AV1 P K (aop (.bslice T' sz' l' z' ps') e (ev s.t) s.h) kp (aTouch (.bslice T' sz' l' z' ps') e) d nx' k Q s := rfl
theorem AT_load {d sz' a' g e kp} {nx' : Nxt} : AT P K ⟨d, .load sz' a', g⟩ e kp nx' k Q s = AV1 P K (aop (.load sz' a') e (ev s.t) s.h) kp (aTouch (.load sz' a') e) d nx' k Q s := rfl
theorem AT_store {d sz' a' x' g e kp} {nx' : Nxt} : AT P K ⟨d, .store sz' a' x', g⟩ e kp nx' k Q s = AV1 P K (aop (.store sz' a' x') e (ev s.t) s.h) kp (aTouch (.store sz' a' x') e) d nx' k Q s := rfl
theorem AT_nilck {d x' g e kp} {nx' : Nxt} : AT P K ⟨d, .nilck x', g⟩ e kp nx' k Q s = AV1 P K (aop (.nilck x') e (ev s.t) s.h) kp (aTouch (.nilck x') e) d nx' k Q s := rfl
theorem AT_bin {d o' x' y' g e kp} {nx' : Nxt} : AT P K ⟨d, .bin o' x' y', g⟩ e kp nx' k Q s = AV1 P K (aop (.bin o' x' y') e (ev s.t) s.h) kp (aTouch (.bin o' x' y') e) d nx' k Q s := rfl
theorem AT_eqb {d n' x' y' g e kp} {nx' : Nxt} : AT P K ⟨d, .eqb n' x' y', g⟩ e kp nx' k Q s = AV1 P K (aop (.eqb n' x' y') e (ev s.t) s.h) kp (aTouch (.eqb n' x' y') e) d nx' k Q s := rfl
theorem AT_eqp {d n' x' y' g e kp} {nx' : Nxt} : AT P K ⟨d, .eqp n' x' y', g⟩ e kp nx' k Q s = AV1 P K (aop (.eqp n' x' y') e (ev s.t) s.h) kp (aTouch (.eqp n' x' y') e) d nx' k Q s := rfl
theorem AT_eqs {d n' x' y' g e kp} {nx' : Nxt} : AT P K ⟨d, .eqs n' x' y', g⟩ e kp nx' k Q s = AV1 P K (aop (.eqs n' x' y') e (ev s.t) s.h) kp (aTouch (.eqs n' x' y') e) d nx' k Q s := rfl
theorem AT_rngS {d x' g e kp} {nx' : Nxt} : AT P K ⟨d, .rngS x', g⟩ e kp nx' k Q s = AV1 P K (aop (.rngS x') e (ev s.t) s.h) kp (aTouch (.rngS x') e) d nx' k Q s := rfl
theorem AT_nextS {d x' g e kp} {nx' : Nxt} : AT P K ⟨d, .nextS x', g⟩ e kp nx' k Q s = AV1 P K (aop (.nextS x') e (ev s.t) s.h) kp (aTouch (.nextS x') e) d nx' k Q s := rfl
theorem AT_not {d x' g e kp} {nx' : Nxt} : AT P K ⟨d, .not x', g⟩ e kp nx' k Q s = AV1 P K (aop (.not x') e (ev s.t) s.h) kp (aTouch (.not x') e) d nx' k Q s := rfl
theorem AT_conv {d kk' x' g e kp} {nx' : Nxt} : AT P K ⟨d, .conv kk' x', g⟩ e kp nx' k Q s = AV1 P K (aop (.conv kk' x') e (ev s.t) s.h) kp (aTouch (.conv kk' x') e) d nx' k Q s := rfl
theorem AT_b2s {d x' g e kp} {nx' : Nxt} : AT P K ⟨d, .b2s x', g⟩ e kp nx' k Q s = AV1 P K (aop (.b2s x') e (ev s.t) s.h) kp (aTouch (.b2s x') e) d nx' k Q s := rfl
theorem AT_frz {d x' g e kp} {nx' : Nxt} : AT P K ⟨d, .frz x', g⟩ e kp nx' k Q s = AV1 P K (aop (.frz x') e (ev s.t) s.h) kp (aTouch (.frz x') e) d nx' k Q s := rfl
theorem AT_slice {d sz' x' lo' hi' g e kp} {nx' : Nxt} : AT P K ⟨d, .slice sz' x' lo' hi', g⟩ e kp nx' k Q s = AV1 P K (aop (.slice sz' x' lo' hi') e (ev s.t) s.h) kp (aTouch (.slice sz' x' lo' hi') e) d nx' k Q s := rfl
theorem AT_fld {d off' sz' x' g e kp} {nx' : Nxt} : AT P K ⟨d, .fld off' sz' x', g⟩ e kp nx' k Q s = AV1 P K (aop (.fld off' sz' x') e (ev s.t) s.h) kp (aTouch (.fld off' sz' x') e) d nx' k Q s := rfl
theorem AT_faddr {d off' x' g e kp} {nx' : Nxt} : AT P K ⟨d, .faddr off' x', g⟩ e kp nx' k Q s = AV1 P K (aop (.faddr off' x') e (ev s.t) s.h) kp (aTouch (.faddr off' x') e) d nx' k Q s := rfl
theorem AT_iaddr {d sz' x' i' g e kp} {nx' : Nxt} : AT P K ⟨d, .iaddr sz' x' i', g⟩ e kp nx' k Q s = AV1 P K (aop (.iaddr sz' x' i') e (ev s.t) s.h) kp (aTouch (.iaddr sz' x' i') e) d nx' k Q s := rfl
theorem AT_append {d T' sz' b' x' y' g e kp} {nx' : Nxt} : AT P K ⟨d, .append T' sz' b' x' y', g⟩ e kp nx' k Q s = AV1 P K (aop (.append T' sz' b' x' y') e (ev s.t) s.h) kp (aTouch (.append T' sz' b' x' y') e) d nx' k Q s := rfl
theorem AT_len {d x' g e kp} {nx' : Nxt} : AT P K ⟨d, .len x', g⟩ e kp nx' k Q s = AV1 P K (aop (.len x') e (ev s.t) s.h) kp (aTouch (.len x') e) d nx' k Q s := rfl
theorem AT_slen {d x' g e kp} {nx' : Nxt} : AT P K ⟨d, .slen x', g⟩ e kp nx' k Q s = AV1 P K (aop (.slen x') e (ev s.t) s.h) kp (aTouch (.slen x') e) d nx' k Q s := rfl
theorem AT_mx {d x' y' g e kp} {nx' : Nxt} : AT P K ⟨d, .mx x' y', g⟩ e kp nx' k Q s = AV1 P K (aop (.mx x' y') e (ev s.t) s.h) kp (aTouch (.mx x' y') e) d nx' k Q s := rfl
theorem AT_mn {d x' y' g e kp} {nx' : Nxt} : AT P K ⟨d, .mn x' y', g⟩ e kp nx' k Q s = AV1 P K (aop (.mn x' y') e (ev s.t) s.h) kp (aTouch (.mn x' y') e) d nx' k Q s := rfl
theorem AT_ext {d x' i' g e kp} {nx' : Nxt} : AT P K ⟨d, .ext x' i', g⟩ e kp nx' k Q s = AV1 P K (aop (.ext x' i') e (ev s.t) s.h) kp (aTouch (.ext x' i') e) d nx' k Q s := rfl
theorem AT_mkfn {d f' cs' g e kp} {nx' : Nxt} : AT P K ⟨d, .mkfn f' cs', g⟩ e kp nx' k Q s = AV1 P K (aop (.mkfn f' cs') e (ev s.t) s.h) kp (aTouch (.mkfn f' cs') e) d nx' k Q s := rfl
theorem AV1_some {x kp tc d n} : AV1 P K (some x) kp tc d n k Q s = (x.sc ∧ kpOk kp tc ∧ keepH kp s.h x.h ∧ n.run P K k Q (putH s x.h d x.v)) := rfl
theorem callvK_fn {g cap args kp d n} : callvK P K (.fn g cap) args kp d n k Q s = (callable P g = true ∧ AC P K g (args ++ cap) kp d n k Q s) := rfl
/-- What is told under a guard. -/
def AGq (x : Option SR) (g : Bool) (ok : Prop) (d : Option Nat) (n : Nxt) (k : List Fr) (Q : Ex → St → Prop) (s : St) : Prop :=
  match x with
  | none => g = false ∧ n.run P K k Q (putH s s.h d (.cnd false (.bool false)))
  | some x => (g = true → ok ∧ x.sc) ∧ n.run P K k Q (putH s s.h d (.cnd g x.v))
theorem AGq_none {g ok d n} : AGq (P := P) (K := K) none g ok d n k Q s = (g = false ∧ n.run P K k Q (putH s s.h d (.cnd false (.bool false)))) := rfl
theorem AGq_some {x g ok d n} : AGq (P := P) (K := K) (some x) g ok d n k Q s = ((g = true → ok ∧ x.sc) ∧ n.run P K k Q (putH s s.h d (.cnd g x.v))) := rfl
def AGm (q : Bool) (b : Bool) (o : IOper) (kp : List Nat) (n : Nxt) (k : List Fr) (Q : Ex → St → Prop) (s : St) : Prop :=
  match q with
  | true => AGq (P := P) (K := K) (aop o.op (bareE s) (ev s.t) s.h) b (okOps s.t o.op.opds) o.dst n k Q s
  | false => (b = true → okOps s.t o.op.opds ∧ AT P K o (bareE s) kp n k Q s) ∧ (b = false → n.run P K k Q (putH s s.h o.dst (.cnd false (.bool false))))
theorem AG_some {b o kp n} : AG P K (some b) o kp n k Q s = AGm (P := P) (K := K) o.op.quiet b o kp n k Q s := by
  unfold AG AGm
  simp only
  cases o.op.quiet <;> rfl
theorem AGm_true {b d op g kp n} : AGm (P := P) (K := K) true b ⟨d, op, g⟩ kp n k Q s = AGq (P := P) (K := K) (aop op (bareE s) (ev s.t) s.h) b (okOps s.t op.opds) d n k Q s := rfl
theorem AGm_false {b d op g kp n} : AGm (P := P) (K := K) false b ⟨d, op, g⟩ kp n k Q s = ((b = true → okOps s.t op.opds ∧ AT P K ⟨d, op, g⟩ (bareE s) kp n k Q s) ∧ (b = false → n.run P K k Q (putH s s.h d (.cnd false (.bool false))))) := rfl
/-- Taken first. -/
def ADq (x : Option SR) (ok : Prop) (d : Option Nat) (all : List IOper) (drop hn : List Nat) (r : List (Nat × Bool)) (late : Bool) (k : List Fr) (Q : Ex → St → Prop) (s : St) : Prop :=
  match x with
  | none => False
  | some x => x.sc ∧ ok ∧ AD P K all drop hn r late k Q (putH s s.h d x.v)
def ADg (x : Option SR) (g : Bool) (ok : Prop) (d : Option Nat) (all : List IOper) (drop hn : List Nat) (r : List (Nat × Bool)) (late : Bool) (k : List Fr) (Q : Ex → St → Prop) (s : St) : Prop :=
  match x with
  | none => g = false ∧ AD P K all drop hn r late k Q (putH s s.h d (.cnd false (.bool false)))
  | some x => (g = true → x.sc ∧ ok) ∧ AD P K all drop hn r late k Q (putH s s.h d (.cnd g x.v))
theorem ADg_none {g ok d all drop hn r late} : ADg (P := P) (K := K) none g ok d all drop hn r late k Q s = (g = false ∧ AD P K all drop hn r late k Q (putH s s.h d (.cnd false (.bool false)))) := rfl
def ADt (o : IOper) (all : List IOper) (drop hn : List Nat) (r : List (Nat × Bool)) (late : Bool) (k : List Fr) (Q : Ex → St → Prop) (s : St) : Prop :=
  match o with
  | ⟨d, op, none⟩ => ADq (P := P) (K := K) (aop op (ev s.t) (ev s.t) s.h) (namesOk late op.mem (aNames op (ev s.t)) hn) d all drop hn r late k Q s
  | ⟨d, op, some gd⟩ => match guardOf s.t gd with
    | none => False
    | some g => ADg (P := P) (K := K) (aop op (bareE s) (ev s.t) s.h) g (okOps s.t op.opds ∧ namesOk late op.mem (aNames op (bareE s)) hn) d all drop hn r late k Q s
theorem AD_nil {all drop hn late} : AD P K all drop hn [] late k Q s = kont P K k Q .normal s := by unfold AD; cases late <;> simp only [adraw]
theorem AD_all {all drop hn i r late} : AD P K all drop hn ((i, false) :: r) late k Q s = match drop.contains i with
    | true => AN P K (all.getD i default) [] (.draw all drop [] r) k Q s
    | false => AN P K (all.getD i default) hn (.draw all drop hn r) k Q s := by
  unfold AD; simp only [adraw]; cases drop.contains i <;> rfl
theorem AD_take {all drop hn i r late} : AD P K all drop hn ((i, true) :: r) late k Q s = ADt (P := P) (K := K) (all.getD i default) all drop hn r late k Q s := by
  unfold AD ADt
  simp only [adraw]
  generalize all.getD i default = o
  obtain ⟨d, op, g⟩ := o
  cases g with
  | none =>
    simp only
    cases aop op (ev s.t) (ev s.t) s.h <;> rfl
  | some gd =>
    simp only
    cases guardOf s.t gd with
    | none => rfl
    | some g =>
      simp only
      cases aop op (bareE s) (ev s.t) s.h with
      | none => rfl
      | some x =>
        unfold ADg AD
        simp only
        congr 1
        apply propext
        constructor
        · exact fun h hg => ⟨(h hg).2.1, (h hg).1, (h hg).2.2⟩
        · exact fun h hg => ⟨(h hg).2.1, (h hg).1, (h hg).2.2⟩
theorem ADt_none {d op all drop hn r late} : ADt (P := P) (K := K) ⟨d, op, none⟩ all drop hn r late k Q s = ADq (P := P) (K := K) (aop op (ev s.t) (ev s.t) s.h) (namesOk late op.mem (aNames op (ev s.t)) hn) d all drop hn r late k Q s := rfl
theorem ADt_some {d op gd all drop hn r late} : ADt (P := P) (K := K) ⟨d, op, some gd⟩ all drop hn r late k Q s = match guardOf s.t gd with
    | none => False
    | some g => ADg (P := P) (K := K) (aop op (bareE s) (ev s.t) s.h) g (okOps s.t op.opds ∧ namesOk late op.mem (aNames op (bareE s)) hn) d all drop hn r late k Q s := rfl
theorem ADq_some {x ok d all drop hn r late} : ADq (P := P) (K := K) (some x) ok d all drop hn r late k Q s = (x.sc ∧ ok ∧ AD P K all drop hn r late k Q (putH s s.h d x.v)) := rfl
theorem ADg_some {x g ok d all drop hn r late} : ADg (P := P) (K := K) (some x) g ok d all drop hn r late k Q s = ((g = true → x.sc ∧ ok) ∧ AD P K all drop hn r late k Q (putH s s.h d (.cnd g x.v))) := rfl
end
theorem AX_of {P : Program} {K : Nat} {ic : IC} {Q : Ex → St → Prop} {s : St} (h : AX P K ic [] Q s) : aexec P K ic Q s := by
  have : kont P K [] Q = Q := by funext e s; rfl
  unfold AX at h
  rwa [this] at h

attribute [simp] AX_skip AX_seq AX_block AX_loop AX_exit AX_ret AX_region AX_draw AX_cond AB_bool AB_anyb k_nil k_seq k_seqE k_seqR k_blk k_blkE k_blkR APs_nil APs_cons run_ops run_draw AN_none AN_some AT_mv AT_pick AT_alloc AT_box AT_build AT_bslice AT_load AT_store AT_nilck AT_bin AT_eqb AT_eqp AT_eqs AT_rngS AT_nextS AT_not AT_conv AT_b2s AT_frz AT_slice AT_fld AT_faddr AT_iaddr AT_append AT_len AT_slen AT_mx AT_mn AT_ext AT_mkfn AT_call AT_callv AV1_some callvK_fn AGq_some AGq_none AG_some AGm_true AGm_false AD_nil AD_all AD_take ADt_none ADt_some ADq_some ADg_some ADg_none
  aop ev KV.av KV.avs putH guardOf bareE okOps IOp.opds IOp.quiet IOp.mem kpOk keepH namesOk drawNames aNames aTouch
  aLoad aStore aAppend slc pick pickV isAbs bin ibin eqP eqS neg negV evs fillP fillOk putAt aend rvals rval pack AO.live AVles AOle ren renL renO nm liveN entO behindH putNames
@[simp] theorem cs_int (k n) : (AV.int k n).cs = [(AV.int k n)] := rfl
@[simp] theorem fits_int (k n) : (AV.int k n).fits = true := rfl
@[simp] theorem bare_int (k n) : (AV.int k n).bare = (AV.int k n) := rfl
@[simp] theorem okc_int (k n) : (AV.int k n).okc = True := rfl
@[simp] theorem cs_bool (b) : (AV.bool b).cs = [(AV.bool b)] := rfl
@[simp] theorem fits_bool (b) : (AV.bool b).fits = true := rfl
@[simp] theorem bare_bool (b) : (AV.bool b).bare = (AV.bool b) := rfl
@[simp] theorem okc_bool (b) : (AV.bool b).okc = True := rfl
@[simp] theorem cs_str (l) : (AV.str l).cs = [(AV.str l)] := rfl
@[simp] theorem fits_str (l) : (AV.str l).fits = true := rfl
@[simp] theorem bare_str (l) : (AV.str l).bare = (AV.str l) := rfl
@[simp] theorem okc_str (l) : (AV.str l).okc = True := rfl
@[simp] theorem cs_anyb : AV.anyb.cs = [AV.anyb] := rfl
@[simp] theorem fits_anyb : AV.anyb.fits = true := rfl
@[simp] theorem bare_anyb : AV.anyb.bare = AV.anyb := rfl
@[simp] theorem okc_anyb : AV.anyb.okc = True := rfl
@[simp] theorem one_anyb : AV.anyb.one = true := rfl
@[simp] theorem cs_nilp  : AV.nilp.cs = [AV.nilp] := rfl
@[simp] theorem fits_nilp  : AV.nilp.fits = true := rfl
@[simp] theorem bare_nilp  : AV.nilp.bare = AV.nilp := rfl
@[simp] theorem okc_nilp  : AV.nilp.okc = True := rfl
@[simp] theorem cs_nils  : AV.nils.cs = [AV.nils] := rfl
@[simp] theorem fits_nils  : AV.nils.fits = true := rfl
@[simp] theorem bare_nils  : AV.nils.bare = AV.nils := rfl
@[simp] theorem okc_nils  : AV.nils.okc = True := rfl
@[simp] theorem cs_ptr (a b) : (AV.ptr a b).cs = [(AV.ptr a b)] := rfl
@[simp] theorem fits_ptr (a b) : (AV.ptr a b).fits = true := rfl
@[simp] theorem bare_ptr (a b) : (AV.ptr a b).bare = (AV.ptr a b) := rfl
@[simp] theorem okc_ptr (a b) : (AV.ptr a b).okc = True := rfl
@[simp] theorem cs_ep (a b c d) : (AV.ep a b c d).cs = [(AV.ep a b c d)] := rfl
@[simp] theorem fits_ep (a b c d) : (AV.ep a b c d).fits = true := rfl
@[simp] theorem bare_ep (a b c d) : (AV.ep a b c d).bare = (AV.ep a b c d) := rfl
@[simp] theorem okc_ep (a b c d) : (AV.ep a b c d).okc = True := rfl
@[simp] theorem cs_rp (a b) : (AV.rp a b).cs = [(AV.rp a b)] := rfl
@[simp] theorem fits_rp (a b) : (AV.rp a b).fits = true := rfl
@[simp] theorem bare_rp (a b) : (AV.rp a b).bare = (AV.rp a b) := rfl
@[simp] theorem okc_rp (a b) : (AV.rp a b).okc = True := rfl
@[simp] theorem cs_psl (a b c) : (AV.psl a b c).cs = [(AV.psl a b c)] := rfl
@[simp] theorem fits_psl (a b c) : (AV.psl a b c).fits = true := rfl
@[simp] theorem bare_psl (a b c) : (AV.psl a b c).bare = (AV.psl a b c) := rfl
@[simp] theorem okc_psl (a b c) : (AV.psl a b c).okc = True := rfl
@[simp] theorem cs_own (a b c) : (AV.own a b c).cs = [(AV.own a b c)] := rfl
@[simp] theorem fits_own (a b c) : (AV.own a b c).fits = true := rfl
@[simp] theorem bare_own (a b c) : (AV.own a b c).bare = (AV.own a b c) := rfl
@[simp] theorem okc_own (a b c) : (AV.own a b c).okc = True := rfl
@[simp] theorem cs_fn (a b) : (AV.fn a b).cs = [(AV.fn a b)] := rfl
@[simp] theorem fits_fn (a b) : (AV.fn a b).fits = true := rfl
@[simp] theorem bare_fn (a b) : (AV.fn a b).bare = (AV.fn a b) := rfl
@[simp] theorem okc_fn (a b) : (AV.fn a b).okc = True := rfl
@[simp] theorem cs_und  : AV.und.cs = [AV.und] := rfl
@[simp] theorem fits_und  : AV.und.fits = false := rfl
@[simp] theorem bare_und  : AV.und.bare = AV.und := rfl
@[simp] theorem okc_und  : AV.und.okc = True := rfl
@[simp] theorem cs_tup (l) : (AV.tup l).cs = [(AV.tup l)] := rfl
@[simp] theorem fits_tup (l) : (AV.tup l).fits = false := rfl
@[simp] theorem bare_tup (l) : (AV.tup l).bare = (AV.tup l) := rfl
@[simp] theorem okc_tup (l) : (AV.tup l).okc = True := rfl
@[simp] theorem cs_agg (l) : (AV.agg l).cs = l := rfl
@[simp] theorem fits_agg (l) : (AV.agg l).fits = true := rfl
@[simp] theorem bare_agg (l) : (AV.agg l).bare = (AV.agg l) := rfl
@[simp] theorem okc_agg (l) : (AV.agg l).okc = True := rfl
@[simp] theorem cs_cnd (a b) : (AV.cnd a b).cs = [(AV.cnd a b)] := rfl
@[simp] theorem fits_cnd (a b) : (AV.cnd a b).fits = false := rfl
@[simp] theorem bare_cnd (a b) : (AV.cnd a b).bare = b := rfl
@[simp] theorem okc_cnd (a b) : (AV.cnd a b).okc = (a = true) := rfl
@[simp] theorem one_int (k n) : (AV.int k n).one = true := rfl
@[simp] theorem one_bool (b) : (AV.bool b).one = true := rfl
@[simp] theorem one_str (b) : (AV.str b).one = true := rfl
@[simp] theorem one_nilp : AV.nilp.one = true := rfl
@[simp] theorem one_nils : AV.nils.one = true := rfl
@[simp] theorem one_ptr (n o) : (AV.ptr n o).one = true := rfl
@[simp] theorem one_ep (a b c d) : (AV.ep a b c d).one = true := rfl
@[simp] theorem one_rp (a b) : (AV.rp a b).one = true := rfl
@[simp] theorem one_psl (a b c) : (AV.psl a b c).one = true := rfl
@[simp] theorem one_own (a b c) : (AV.own a b c).one = true := rfl
@[simp] theorem one_fn (a b) : (AV.fn a b).one = true := rfl
@[simp] theorem one_agg (a) : (AV.agg a).one = false := rfl
@[simp] theorem AVle_refl (x : AV) : AVle x x := AVle.refl x
@[simp] theorem AVle_und (x : AV) : AVle x .und := AVle.und x
theorem idn {m : List Nat} {K : Nat} (h : m.take K = List.range K) : ∀ i, i < K → m[i]? = some i := fun i hi => by
  have : (m.take K)[i]? = some i := by rw [h]; simp [hi]
  rwa [List.getElem?_take_of_lt hi] at this
end Go.AM
namespace Go.AM
section
variable {P : Program} {K : Nat} {k : List Fr} {Q : Ex → St → Prop}
theorem AC.of {f : FuncId} {args t : List AV} {H h : List AO} {kp : List Nat} {d : Option Nat} {n : Nxt} {post' : AV → List AO → Prop} (m : List Nat) (args' : List AV) (hs : ASpec P f args' h post')
    (hmd : m.Nodup) (hH : m.map (fun n => H[n]?) = h.map (fun o => some (renO (nm m H.length) o)))
    (hargs : AVles args (renL (nm m H.length) args')) (hkp : kpOk kp m) (hpost : ∀ r h', post' r h' → h.length ≤ h'.length → keepH kp H (behindH H m h') ∧ n.run P K k Q (putH ⟨t, H⟩ (behindH H m h') d (ren (nm m H.length) r))) : AC P K f args kp d n k Q ⟨t, H⟩ :=
  ACall.of m args' hs hmd hH hargs hkp hpost
theorem AC.det {f : FuncId} {args t : List AV} {H h h0 : List AO} {kp : List Nat} {d : Option Nat} {n : Nxt} {r0 : AV} (m : List Nat) (args' : List AV) (hs : ASpec P f args' h (fun r h' => r = r0 ∧ h' = h0))
    (hmd : m.Nodup) (hH : m.map (fun n => H[n]?) = h.map (fun o => some (renO (nm m H.length) o)))
    (hargs : AVles args (renL (nm m H.length) args')) (hkp : kpOk kp m) (hpost : keepH kp H (behindH H m h0) ∧ n.run P K k Q (putH ⟨t, H⟩ (behindH H m h0) d (ren (nm m H.length) r0))) : AC P K f args kp d n k Q ⟨t, H⟩ :=
  ACall.det m args' hs hmd hH hargs hkp hpost
theorem keepH_same : ∀ (kp : List Nat) (h : List AO), keepH kp h h
  | [], _ => trivial
  | _ :: r, h => ⟨rfl, keepH_same r h⟩
/-- A function without objects. -/
theorem AC.plain {f : FuncId} {args t : List AV} {H : List AO} {kp : List Nat} {d : Option Nat} {n : Nxt} {r0 : AV} (args' : List AV) (hs : ASpec P f args' [] (fun r h' => r = r0 ∧ h' = []))
    (hargs : AVles args (renL (nm [] H.length) args')) (hpost : n.run P K k Q (putH ⟨t, H⟩ H d (ren (nm [] H.length) r0))) : AC P K f args kp d n k Q ⟨t, H⟩ :=
  ACall.plain args' hs hargs ⟨keepH_same _ _, hpost⟩
end
attribute [simp] fz fzL fzO

/-! ### Slots: a list of what was put, the latest first -/
def look : List (Nat × AV) → Nat → AV
  | [], _ => .und
  | p :: l, j => bif p.1 == j then p.2 else look l j
def mkT (n : Nat) (l : List (Nat × AV)) : List AV := (List.range n).map (look l)

theorem mkT_len (n : Nat) (l : List (Nat × AV)) : (mkT n l).length = n := by simp [mkT]
theorem mkT_get (n : Nat) (l : List (Nat × AV)) (j : Nat) : (mkT n l)[j]? = if j < n then some (look l j) else none := by
  unfold mkT
  by_cases h : j < n
  · simp [h]
  · simp [h]
@[simp] theorem mkT_set (n : Nat) (l : List (Nat × AV)) (d : Nat) (v : AV) : (mkT n l).set d v = mkT n ((d, v) :: l) := by
  refine List.ext_getElem? fun j => ?_
  rw [List.getElem?_set, mkT_get, mkT_get, mkT_len]
  by_cases hd : d = j
  · subst hd
    simp [look]
  · have h1 : (d == j) = false := by simpa using hd
    rw [if_neg hd]
    simp only [look, h1, cond_false]
@[simp] theorem mkT_getD (n : Nat) (l : List (Nat × AV)) (j : Nat) : (mkT n l)[j]?.getD .und = bif decide (j < n) then look l j else .und := by
  rw [mkT_get]
  by_cases h : j < n <;> simp [h]
@[simp] theorem mkT_getD' (n : Nat) (l : List (Nat × AV)) (j : Nat) : (mkT n l).getD j .und = bif decide (j < n) then look l j else .und := by
  rw [List.getD_eq_getElem?_getD, mkT_getD]
@[simp] theorem look_cons (d j : Nat) (v : AV) (l : List (Nat × AV)) : look ((d, v) :: l) j = bif d == j then v else look l j := rfl
@[simp] theorem look_nil (j : Nat) : look [] j = .und := rfl

def renT (σ : Nat → Nat) : List (Nat × AV) → List (Nat × AV)
  | [] => []
  | p :: l => (p.1, ren σ p.2) :: renT σ l
attribute [simp] renT
theorem look_renT (σ : Nat → Nat) : ∀ (l : List (Nat × AV)) (j : Nat), look (renT σ l) j = ren σ (look l j)
  | [], j => by simp [look, renT, ren]
  | p :: l, j => by
    simp only [renT, look, look_renT σ l j]
    cases p.1 == j <;> rfl
@[simp] theorem renL_mkT (σ : Nat → Nat) (n : Nat) (l : List (Nat × AV)) : renL σ (mkT n l) = mkT n (renT σ l) := by
  have : ∀ m : List AV, renL σ m = m.map (ren σ) := fun m => by
    induction m with
    | nil => rfl
    | cons x r ih => simp [renL, ih]
  rw [this]
  unfold mkT
  rw [List.map_map]
  congr 1
  funext j
  simp [look_renT]

theorem AVles_map {f g : Nat → AV} (h : ∀ i, AVle (f i) (g i)) : ∀ l : List Nat, AVles (l.map f) (l.map g)
  | [] => trivial
  | x :: r => ⟨h x, AVles_map h r⟩
/-- What the second list tells, the first one tells. -/
def leT (l : List (Nat × AV)) : List (Nat × AV) → Prop
  | [] => True
  | p :: r => AVle (look l p.1) p.2 ∧ leT l r
attribute [simp] leT
theorem leT_look {l : List (Nat × AV)} : ∀ {l' : List (Nat × AV)}, leT l l' → ∀ j, AVle (look l j) (look l' j)
  | [], _, j => AVle.und _
  | p :: r, h, j => by
    simp only [look]
    cases hp : p.1 == j with
    | true =>
      have : p.1 = j := by simpa using hp
      subst this
      exact h.1
    | false => exact leT_look h.2 j
theorem AVles_mkT {n : Nat} {l l' : List (Nat × AV)} : leT l l' → AVles (mkT n l) (mkT n l') := fun h => AVles_map (leT_look h) _

def argsT : Nat → List AV → List (Nat × AV)
  | _, [] => []
  | i, x :: r => (i, x) :: argsT (i + 1) r
attribute [simp] argsT
theorem look_args : ∀ (args : List AV) (i j : Nat), look (argsT i args) (i + j) = args.getD j .und
  | [], i, j => by simp [argsT]
  | x :: r, i, 0 => by simp [argsT, look]
  | x :: r, i, j + 1 => by
    have h := look_args r (i + 1) j
    have e : i + (j + 1) = i + 1 + j := by omega
    simp only [argsT, look, e]
    rw [h]
    have : (i == i + 1 + j) = false := by simp; omega
    rw [this]; simp
theorem args_mkT {n : Nat} {args : List AV} (h : args.length ≤ n) : args ++ List.replicate (n - args.length) .und = mkT n (argsT 0 args) := by
  refine List.ext_getElem? fun j => ?_
  rw [mkT_get]
  have h1 := look_args args 0 j
  rw [Nat.zero_add] at h1
  by_cases hj : j < n
  · rw [if_pos hj, h1]
    by_cases ha : j < args.length
    · rw [List.getElem?_append_left ha]; simp [ha]
    · rw [List.getElem?_append_right (by omega), List.getElem?_replicate]
      rw [if_pos (by omega)]
      simp [ha]
  · rw [if_neg hj, List.getElem?_eq_none]
    simp; omega
/-- The contract of a function, out of its code. -/
theorem aspec_T {P : Program} (hm : P.follows .mixedOrders = true) {f : FuncId} {fn : Func} {c : Code} {ic : IC} {rs : List RV} {args : List AV} {h : List AO} {post : AV → List AO → Prop} (hf : P.funcs[f]? = some fn) (hb : fn.body = some c) (hc : compile P c = some ic)
    (hrs : fn.results.toList.map (rvOf P) = rs.map some) {n : Nat} (hn : fn.ntmps = n) (hl : args.length ≤ n) (hbody : AX P h.length ic [] (aend h.length rs post) ⟨mkT n (argsT 0 args), h⟩) : ASpec P f args h post :=
  aspec_of hm hf hb hc hrs hn (by rw [args_mkT hl]; exact AX_of hbody)
end Go.AM
