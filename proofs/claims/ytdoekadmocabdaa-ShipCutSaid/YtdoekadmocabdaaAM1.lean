/- A part of the proof: an abstract machine over the model's code: values, objects, operations. -/
import GoSem.Step
import Derived.WalkKit
import Derived.Maps.AppendAt
import Derived.OrdersHeld
set_option linter.unusedVariables false
namespace Go.AM

/-- Abstract values: a whole number, a bool, a text, a nil pointer, a pointer into an object of cells, one into an object of rows, one into memory that is never written any more, a nil slice, a slice that is never written any more, one that owns a row, a struct, several results, a function, anything, and what is told only under a guard. -/
inductive AV where
  | int (k : IntKind) (n : Int)
  | bool (b : Bool)
  | str (l : List Int)
  | nilp
  | ptr (n off : Nat)
  | ep (n sz i j : Nat)
  | rp (m : Nat) (k : Nat → AV)
  | nils
  | psl (sz n : Nat) (f : Nat → Nat → AV)
  | own (n sz len : Nat)
  | agg (l : List AV)
  | tup (l : List AV)
  | fn (f : FuncId) (cap : List AV)
  | und
  | anyb
  | cnd (c : Bool) (v : AV)

inductive AO where
  | cells (T : Nat) (cs : List AV)
  | row (T sz n : Nat) (f : Nat → Nat → AV)
  | siter (l : List Int) (p : Nat)
  | dead

def AO.live : AO → Bool
  | .dead => false
  | _ => true

/-- Constants. -/
inductive KV where
  | int (k : IntKind) (n : Int)
  | bool (b : Bool)
  | str (l : List Int)
  | nilp
  | nils
  | agg (l : List KV)
  deriving Inhabited

mutual
def KV.av : KV → AV
  | .int k n => .int k n
  | .bool b => .bool b
  | .str l => .str l
  | .nilp => .nilp
  | .nils => .nils
  | .agg l => .agg (KV.avs l)
def KV.avs : List KV → List AV
  | [] => []
  | x :: r => x.av :: KV.avs r
end

inductive Opd where
  | t (n : Nat) | c (v : KV) | f (g : Nat)
  deriving Inhabited

inductive IOp where
  | mv (x : Opd)
  | pick (c a b : Opd)
  | alloc (T : Nat) (z : List KV)
  | box (T : Nat) (x : Opd)
  | build (z : List KV) (parts : List (Nat × Nat × Opd))
  | bslice (T sz : Nat) (len : Nat) (z : List KV) (parts : List (Nat × Nat × Opd))
  | load (sz : Option Nat) (a : Opd)
  | store (sz : Nat) (a x : Opd)
  | nilck (x : Opd)
  | bin (op : BinOp) (x y : Opd)
  | eqb (neg : Bool) (x y : Opd)
  | eqp (neg : Bool) (x y : Opd)
  | eqs (neg : Bool) (x y : Opd)
  | rngS (x : Opd)
  | nextS (x : Opd)
  | not (x : Opd)
  | conv (k : IntKind) (x : Opd)
  | b2s (x : Opd)
  | frz (x : Opd)
  | slice (sz : Nat) (x : Opd) (lo hi : Option Opd)
  | fld (off : Nat) (sz : Option Nat) (x : Opd)
  | faddr (off : Nat) (x : Opd)
  | iaddr (sz : Nat) (x i : Opd)
  | append (T sz bytes : Nat) (x y : Opd)
  | len (x : Opd)
  | slen (x : Opd)
  | mx (x y : Opd)
  | mn (x y : Opd)
  | ext (x : Opd) (i : Nat)
  | mkfn (f : Nat) (caps : List Opd)
  | call (f : Nat) (args : List Opd)
  | callv (f : Opd) (args : List Opd)
  | other
  deriving Inhabited

structure IOper where
  dst : Option Nat
  op : IOp
  guard : Option (Option Nat × Bool)
  deriving Inhabited

/-- Code. A region that draws bears its order: which places are taken first ('true') and which come up alone. -/
inductive IC where
  | skip
  | region (ops : List IOper)
  | draw (ops : List IOper) (order : List (Nat × Bool)) (roots drop : List Nat)
  | seq (a b : IC)
  | cond (c : Opd) (x y : IC)
  | block (id : Nat) (b : IC)
  | loop (b : IC)
  | exit (id : Nat)
  | ret
  deriving Inhabited

/-! ### Out of the model's code -/
def allS {α : Type} : List (Option α) → Option (List α)
  | [] => some []
  | none :: _ => none
  | some x :: r => (allS r).map (x :: ·)

theorem allS_eq {α : Type} : ∀ {l : List (Option α)} {xs : List α}, allS l = some xs → l = xs.map some
  | [], xs, h => by simp [allS] at h; subst h; rfl
  | none :: r, xs, h => by simp [allS] at h
  | some x :: r, xs, h => by
    simp only [allS, Option.map_eq_some_iff] at h
    obtain ⟨ys, hy, rfl⟩ := h
    simp [allS_eq hy]

def kvOf : Nat → Value → Option KV
  | 0, _ => none
  | n+1, v => match v with
    | .int k n => some (.int k n)
    | .bool b => some (.bool b)
    | .string s => some (.str (s.data.toList.map fun b => (b.toNat : Int)))
    | .pointer none => some .nilp
    | .slice none 0 0 => some .nils
    | .agg cs => (allS (cs.toList.map (kvOf n))).map .agg
    | _ => none

def opdOf : Operand → Option Opd
  | .tmp t => some (.t t)
  | .const v => (kvOf 3 v).map .c
  | .func f => some (.f f)
  | .global _ => none

/-- none: one cell; some n: a struct or an array of n cells. -/
def aggSz (P : Program) (t : TypeId) : Option (Option Nat) :=
  match P.underlying t with
  | some (.struct _) | some (.array _ _) => (P.info? t).map fun i => some i.size
  | some _ => some none
  | none => none

def zeroOf (P : Program) (t : TypeId) : Option (List KV) :=
  match P.info? t with
  | some i => match i.zero with
    | some z => allS (z.cells.toList.map (kvOf 3))
    | none => none
  | none => none

/-- A slice type's element type, its cells and bytes. -/
def elemSz (P : Program) (t : TypeId) : Option (Nat × Nat × Nat) :=
  match P.underlying t with
  | some (.slice e) => (P.info? e).map fun i => (e, i.size, i.bytes)
  | _ => none

def fieldOf (P : Program) (t : TypeId) (f : Nat) : Option (Nat × TypeId) :=
  match P.underlying t with
  | some (.struct fs) => (fs[f]?).map fun x => (x.offset, x.type)
  | _ => none

def isU8 : Option TypeDesc → Bool
  | some (.int .u8) => true
  | _ => false

def opdsOf (l : List Operand) : Option (List Opd) := allS (l.map opdOf)

def optOpd : Option Operand → Option (Option Opd)
  | none => some none
  | some x => (opdOf x).map some

/-- The offsets and sizes of a struct's fields. -/
def places (P : Program) (fs : Array Field) : Option (List (Nat × Nat)) := fs.toList.mapM (fun f => (P.info? f.type).map fun i => (f.offset, i.size))

def cBuild (P : Program) (t : TypeId) (parts : Array (Nat × Operand)) : Option IOp :=
  match P.underlying t with
  | some (.struct fs) => match zeroOf P t, places P fs with
    | some z, some pl => (allS (parts.toList.map fun p => match pl[p.1]?, opdOf p.2 with
        | some f, some y => some (f.1, f.2, y)
        | _, _ => none)).map (.build z)
    | _, _ => none
  | _ => none

def cBslice (P : Program) (t : TypeId) (len : Nat) (parts : Array (Nat × Operand)) : Option IOp :=
  match elemSz P t with
  | some (e, sz, _) => match zeroOf P e, allS (parts.toList.map fun p => (opdOf p.2).map fun y => (p.1 * sz, sz, y)) with
    | some z, some ps => some (.bslice e sz len z ps)
    | _, _ => none
  | none => none

def cBin (P : Program) (op : BinOp) (t : TypeId) (x y : Operand) : Option IOp :=
  match opdOf x, opdOf y with
  | some x, some y => match P.underlying t with
    | some (.int _) => some (.bin op x y)
    | some .string => some (.bin op x y)
    | some .bool => if op = .eql then some (.eqb false x y) else if op = .neq then some (.eqb true x y) else none
    | some (.pointer _) => if op = .eql then some (.eqp false x y) else if op = .neq then some (.eqp true x y) else none
    | some (.slice _) => if op = .eql then some (.eqs false x y) else if op = .neq then some (.eqs true x y) else none
    | _ => none
  | _, _ => none

def isInt : Option TypeDesc → Bool
  | some (.int _) => true
  | _ => false

def cConv (P : Program) (s d : TypeId) (x : Operand) : Option IOp :=
  match opdOf x with
  | some x => match P.underlying s, P.underlying d with
    | some (.int _), some (.int k) => some (.conv k x)
    | some (.slice e), some .string => if isU8 (P.underlying e) then some (.b2s x) else none
    | some (.slice _), some (.slice e) => if s = d ∧ isU8 (P.underlying e) = true then some (.frz x) else none
    | _, _ => none
  | none => none

def cSlice (P : Program) (t : TypeId) (x : Operand) (lo hi mx : Option Operand) : Option IOp :=
  match mx, elemSz P t, opdOf x, optOpd lo, optOpd hi with
  | none, some (_, s, _), some x, some lo, some hi => some (.slice s x lo hi)
  | _, _, _, _, _ => none

def cMkf (fn : Fn) (first caps : Array Operand) : Option IOp :=
  match fn with
  | .func f => if first.size = 0 then (opdsOf caps.toList).map (.mkfn f) else none
  | _ => none

/-- May it be called: it has a body. -/
def callable (P : Program) (f : Nat) : Bool :=
  match P.funcs[f]? with
  | some fn => fn.body.isSome && fn.name != "runtime.NumGoroutine"
  | none => false

def cBuiltin (P : Program) (b : Builtin) (types : Array TypeId) (args : List Opd) : Option IOp :=
  match b, args with
  | .append, [x, y] => match elemSz P (types.getD 0 0), zeroOf P ((elemSz P (types.getD 0 0)).getD (0, 0, 0)).1 with
    | some (e, s, b), some z => if types = #[types.getD 0 0, types.getD 0 0] ∧ z.length = s then some (.append e s b x y) else none
    | _, _ => none
  | .len, [x] => match P.underlying (types.getD 0 0) with
    | some .string => if types.size = 0 then none else some (.slen x)
    | some (.slice _) => if types.size = 0 then none else some (.len x)
    | _ => none
  | .max, [x, y] => some (.mx x y)
  | .min, [x, y] => some (.mn x y)
  | _, _ => none

def cCall (P : Program) (c : Call) : Option IOp :=
  match opdsOf c.args.toList with
  | some args => match c.callee with
    | .builtin b => cBuiltin P b c.argTypes args
    | .value (.func f) => if callable P f then some (.call f args) else none
    | .value g => (opdOf g).map fun g => .callv g args
    | _ => none
  | none => none

def cOp (P : Program) (o : Oper) : Option IOp :=
  match o.op with
  | .move x => (opdOf x).map .mv
  | .assign x => (opdOf x).map .mv
  | .pick c a b => match opdOf c, opdOf a, opdOf b with
    | some c, some a, some b => some (.pick c a b)
    | _, _, _ => none
  | .alloc t => (zeroOf P t).map (.alloc t)
  | .box t x => (opdOf x).map (.box t)
  | .build t parts => cBuild P t parts
  | .buildSlice t len parts => cBslice P t len parts
  | .load t a => match aggSz P t, opdOf a with
    | some s, some a => some (.load s a)
    | _, _ => none
  | .store t a x => match P.info? t, opdOf a, opdOf x with
    | some i, some a, some x => some (.store i.size a x)
    | _, _, _ => none
  | .nilCheck x => (opdOf x).map .nilck
  | .binOp op t x y _ => cBin P op t x y
  | .unOp op _ x => if op = .not then (opdOf x).map .not else none
  | .convert s d x => cConv P s d x
  | .slice t x lo hi mx => cSlice P t x lo hi mx
  | .field t x f => match fieldOf P t f, opdOf x with
    | some (off, ft), some x => (aggSz P ft).map fun s => .fld off s x
    | _, _ => none
  | .fieldAddr t x f => match fieldOf P t f, opdOf x with
    | some (off, ft), some x => match P.info? ft with
      | some i => if i.size = 0 then none else some (.faddr off x)
      | none => none
    | _, _ => none
  | .indexAddr t x i => match elemSz P t, opdOf x, opdOf i with
    | some (_, s, _), some x, some i => some (.iaddr s x i)
    | _, _, _ => none
  | .extract x i => (opdOf x).map fun x => .ext x i
  | .range t x => match P.underlying t, opdOf x with
    | some .string, some x => some (.rngS x)
    | _, _ => none
  | .next x s => match s, opdOf x with
    | true, some x => some (.nextS x)
    | _, _ => none
  | .makeFunc fn first caps => cMkf fn first caps
  | .call c => cCall P c
  | _ => none

def cOper (P : Program) (ops : List Oper) (o : Oper) : IOper :=
  { dst := o.dst
    op := (cOp P o).getD .other
    guard := match o.guard with
      | none => none
      | some (j, b) => some ((ops[j]?).bind (·.dst), b) }

/-- Which operations read only (their number of cells in memory untouched). -/
def IOp.quiet : IOp → Bool
  | .mv _ | .pick .. | .build .. | .load .. | .nilck _ | .bin .. | .eqb .. | .eqp .. | .eqs .. | .not _ | .conv .. | .b2s _ | .slice .. | .fld .. | .faddr .. | .iaddr .. | .len _ | .slen _ | .mx .. | .mn .. | .ext .. | .mkfn .. => true
  | _ => false

/-- Which of them read memory. -/
def IOp.mem : IOp → Bool
  | .load .. | .b2s _ => true
  | _ => false

/-- The order of a region that draws: a quiet operation that may be taken first is taken (one that reads memory: ahead of all that write); else what comes up alone; else a late load. -/
def sched (P : Program) (ops : Array Oper) : Nat → Bool → Array Bool → Option (List (Nat × Bool))
  | 0, _, listed => if Region.ready .any ops listed = [] then some [] else none
  | n+1, late, listed =>
    match (Region.ready .any ops listed).find? (fun i => Region.free .any ops listed i && (((ops[i]?).map fun o => ((cOp P o).getD .other).quiet && !(late && ((cOp P o).getD .other).mem)).getD false)) with
    | some i => (sched P ops n late (listed.setIfInBounds i true)).map ((i, true) :: ·)
    | none => match Region.ready .any ops listed with
      | [i] => (sched P ops n true (listed.setIfInBounds i true)).map ((i, false) :: ·)
      | rs => match rs.find? (fun i => Region.free .any ops listed i && (((ops[i]?).map fun o => ((cOp P o).getD .other).quiet).getD false)) with
        | some i => (sched P ops n late (listed.setIfInBounds i true)).map ((i, true) :: ·)
        | none => none

/-- Out of which slot a pointer comes. -/
def rootOf (ops : List Oper) : Nat → Operand → Option Nat
  | 0, _ => none
  | n+1, .tmp t => match ops.find? (fun o => o.dst == some t) with
    | none => some t
    | some o => match o.op with
      | .fieldAddr _ x _ => rootOf ops n x
      | .nilCheck x => rootOf ops n x
      | .move x => rootOf ops n x
      | .indexAddr _ x _ => rootOf ops n x
      | _ => none
  | _, _ => none

/-- The slots out of which the loads' pointers come. -/
def roots (ops : List Oper) : List Nat :=
  (ops.filterMap fun o => match o.op with
    | .load _ a => rootOf ops ops.length a
    | _ => none).eraseDups

/-- 'b' waits for 'i'. -/
def waits (md : Region.Mode) (ops : Array Oper) (i b : Nat) : Bool :=
  match ops[b]? with
  | some o => o.after.any fun e => Region.binds md e && e.on == i
  | none => true

/-- Those that write when all was read. -/
def drops (P : Program) (ops : Array Oper) : List Nat :=
  (List.range ops.size).filter fun j => !(((ops[j]?).map fun o => ((cOp P o).getD .other).quiet).getD true) && (List.range ops.size).all fun i => !(((ops[i]?).map fun o => ((cOp P o).getD .other).mem).getD false) || waits .any ops i j

def compile (P : Program) : Code → Option IC
  | .skip => some .skip
  | .region _ ops false => some (.region (ops.toList.map (cOper P ops.toList)))
  | .region _ ops true => match Region.noSelect ops, sched P ops ops.size false (Array.replicate ops.size false) with
    | true, some l => some (.draw (ops.toList.map (cOper P ops.toList)) l (roots ops.toList) (drops P ops))
    | _, _ => none
  | .seq a b => match compile P a, compile P b with
    | some x, some y => some (.seq x y)
    | _, _ => none
  | .cond c x y => match opdOf c, compile P x, compile P y with
    | some c, some x, some y => some (.cond c x y)
    | _, _, _ => none
  | .block id b => (compile P b).map (.block id)
  | .loop b => (compile P b).map .loop
  | .exit id => some (.exit id)
  | .ret => some .ret
  | _ => none

/-! ### What is reckoned -/
structure St where
  t : List AV
  h : List AO

def ev (t : List AV) : Opd → AV
  | .t n => t.getD n .und
  | .c v => v.av
  | .f g => .fn g []

/-- An operand under a guard that holds. -/
def AV.bare : AV → AV
  | .cnd _ v => v
  | v => v

/-- When the bare value is the value. -/
def AV.okc : AV → Prop
  | .cnd c _ => c = true
  | _ => True

def IOp.opds : IOp → List Opd
  | .mv x | .rngS x | .nextS x | .box _ x | .load _ x | .nilck x | .not x | .conv _ x | .b2s x | .frz x | .fld _ _ x | .faddr _ x | .len x | .slen x | .ext x _ => [x]
  | .pick c a b => [c]
  | .alloc .. | .other => []
  | .build _ ps | .bslice _ _ _ _ ps => ps.map fun p => p.2.2
  | .store _ a x => [a, x]
  | .bin _ x y | .eqb _ x y | .eqp _ x y | .eqs _ x y | .iaddr _ x y | .append _ _ _ x y | .mx x y | .mn x y => [x, y]
  | .slice _ x lo hi => x :: (lo.toList ++ hi.toList)
  | .mkfn _ cs => cs
  | .call _ as => as
  | .callv f as => f :: as

structure SR where
  sc : Prop
  v : AV
  h : List AO

def AV.cs : AV → List AV
  | .agg l => l
  | x => [x]

/-- A value of one cell. -/
def AV.one : AV → Bool
  | .int .. | .bool _ | .anyb | .str _ | .nilp | .ptr .. | .ep .. | .rp .. | .nils | .psl .. | .own .. | .fn .. => true
  | _ => false

def isB (x : AV) : Prop := ∃ n : Int, x = .int .u8 n ∧ 0 ≤ n ∧ n < 256
def toI : AV → Int
  | .int _ n => n
  | _ => 0
def tabI (n : Nat) (f : Nat → Nat → AV) : List Int := (List.range n).map fun i => toI (f i 0)

def putAt (l : List AV) (off : Nat) : List AV → List AV
  | [] => l
  | x :: r => putAt (l.set off x) (off + 1) r

def fillP (l : List AV) : List (Nat × Nat × AV) → List AV
  | [] => l
  | (off, _, v) :: r => fillP (putAt l off v.cs) r

/-- Each part lies inside, and is one of so many cells. -/
def fillOk (n : Nat) : List (Nat × Nat × AV) → Prop
  | [] => True
  | (off, s, v) :: r => v.cs.length = s ∧ off + s ≤ n ∧ fillOk n r

/-- A struct, or a value of one cell. -/
def AV.fits : AV → Bool
  | .agg _ => true
  | x => x.one

def evs (e : Opd → AV) (ps : List (Nat × Nat × Opd)) : List (Nat × Nat × AV) := ps.map fun p => (p.1, p.2.1, e p.2.2)

def ibin (op : BinOp) (k : IntKind) (a b : Int) : Option (Prop × AV) :=
  match op with
  | .add => some (True, .int k (k.wrap (a + b)))
  | .sub => some (True, .int k (k.wrap (a - b)))
  | .mul => some (True, .int k (k.wrap (a * b)))
  | .quo => some (b ≠ 0, .int k (k.wrap (a.tdiv b)))
  | .rem => some (b ≠ 0, .int k (a.tmod b))
  | .eql => some (True, .bool (decide (a = b)))
  | .neq => some (True, .bool (!decide (a = b)))
  | .lss => some (True, .bool (decide (a < b)))
  | .leq => some (True, .bool (decide (a ≤ b)))
  | .gtr => some (True, .bool (decide (b < a)))
  | .geq => some (True, .bool (decide (b ≤ a)))
  | .or => some (True, .int k (k.wrap (BitVec.ofInt k.bits a ||| BitVec.ofInt k.bits b).toNat))
  | .and => some (True, .int k (k.wrap (BitVec.ofInt k.bits a &&& BitVec.ofInt k.bits b).toNat))
  | .xor => some (True, .int k (k.wrap (BitVec.ofInt k.bits a ^^^ BitVec.ofInt k.bits b).toNat))
  | _ => none

def bin (op : BinOp) (x y : AV) : Option (Prop × AV) :=
  match x, y with
  | .int k a, .int k' b =>
    match op with
    | .shl => some (0 ≤ b, .int k (k.wrap (a * 2 ^ (min b.toNat k.bits))))
    | .shr => some (0 ≤ b, .int k (a.fdiv (2 ^ (min b.toNat k.bits))))
    | op => if k = k' then ibin op k a b else none
  | .str a, .str b =>
    match op with
    | .eql => some (True, .bool (decide (a = b)))
    | .neq => some (True, .bool (!decide (a = b)))
    | _ => none
  | _, _ => none

/-- Pointers against nil. -/
def eqP (x y : AV) : Option Bool :=
  match x, y with
  | .nilp, .nilp => some true
  | .ptr _ _, .nilp => some false
  | .nilp, .ptr _ _ => some false
  | .rp _ _, .nilp => some false
  | _, _ => none

/-- Slices against nil. -/
def eqS (x y : AV) : Option AV :=
  match x, y with
  | .nils, .nils => some (.bool true)
  | .psl _ n _, .nils => some (if 0 < n then .bool false else .anyb)
  | _, _ => none

def neg (n b : Bool) : Bool := if n then !b else b

def negV (n : Bool) (v : AV) : AV :=
  match v with
  | .bool b => .bool (neg n b)
  | v => v

def isAbs (x : AV) : Option (Bool × AV) :=
  match x with
  | .cnd g v => some (g, v)
  | .und => none
  | v => some (true, v)

def pickV (c : Bool) (a b : AV) : Option (Prop × AV) :=
  match isAbs a, isAbs b with
  | some (g, .bool x), some (g', .bool y) => some ((c = true → g = true) ∧ (c = false → g' = true), .bool (if c then x else y))
  | some (g, .int k x), some (g', .int k' y) => if k = k' then some ((c = true → g = true) ∧ (c = false → g' = true), .int k (if c then x else y)) else none
  | _, _ => none

def pick (c a b : AV) : Option (Prop × AV) :=
  match c with
  | .bool c => pickV c a b
  | _ => none

def slc (sz : Nat) (x : AV) (lo hi : Option AV) : Option (Prop × AV) :=
  match x with
  | .psl s n f => if s = sz then
      match lo, hi with
      | none, none => some (True, .psl sz n f)
      | some (.int _ l), none => some (0 ≤ l ∧ l ≤ n, .psl sz (n - l.toNat) (fun i => f (l.toNat + i)))
      | none, some (.int _ h) => some (0 ≤ h ∧ h ≤ n, .psl sz h.toNat f)
      | some (.int _ l), some (.int _ h) => some (0 ≤ l ∧ l ≤ h ∧ h ≤ n, .psl sz (h.toNat - l.toNat) (fun i => f (l.toNat + i)))
      | _, _ => none
    else none
  | .own k s n =>
    match lo, hi with
    | none, some (.int _ h) => some (0 ≤ h ∧ h ≤ n, .own k s h.toNat)
    | _, _ => none
  | _ => none

def aLoad (a : AV) (s : Option Nat) (h : List AO) : Option SR :=
  match a, s with
  | .ptr n off, none => match h[n]? with
    | some (.cells _ cs) => some ⟨off < cs.length, cs.getD off .und, h⟩
    | _ => none
  | .ptr n off, some s => match h[n]? with
    | some (.cells _ cs) => some ⟨off + s ≤ cs.length, .agg ((cs.drop off).take s), h⟩
    | _ => none
  | .ep n z i j, none => match h[n]? with
    | some (.row _ z' k f) => if z' = z then some ⟨i < k ∧ j < z, f i j, h⟩ else none
    | _ => none
  | .ep n z i j, some s => match h[n]? with
    | some (.row _ z' k f) => if z' = z then some ⟨i < k ∧ j + s ≤ z, .agg ((List.range s).map fun q => f i (j + q)), h⟩ else none
    | _ => none
  | .rp m k, none => some ⟨0 < m, k 0, h⟩
  | .rp m k, some s => some ⟨s ≤ m, .agg ((List.range s).map k), h⟩
  | _, _ => none

def aStore (sz : Nat) (a x : AV) (h : List AO) : Option SR :=
  match a with
  | .ptr n off => match h[n]? with
    | some (.cells T cs) => some ⟨x.cs.length = sz ∧ off + sz ≤ cs.length, .und, h.set n (.cells T (putAt cs off x.cs))⟩
    | _ => none
  | .ep n z i j => match h[n]? with
    | some (.row T z' k f) => if z' = z then some ⟨x.cs.length = sz ∧ i < k ∧ j + sz ≤ z, .und, h.set n (.row T z k (fun i' j' => if i' = i ∧ j ≤ j' ∧ j' < j + sz then x.cs.getD (j' - j) .und else f i' j'))⟩ else none
    | _ => none
  | _ => none

def aAppend (T s b : Nat) (x y : AV) (h : List AO) : Option SR :=
  match x, y with
  | .nils, .own k s' m => match h[k]? with
    | some (.row _ sk n f) => if s' = s ∧ sk = s then some ⟨0 < s ∧ m ≤ n ∧ m * b ≤ 140737488355328 ∧ m ≤ 140737488355328 ∧ (∀ i j, i < m → j < s → (f i j).one = true), .own h.length s m, h ++ [.row T s m f]⟩ else none
    | _ => none
  | .own k' s'' n, .own k s' m => match h[k']?, h[k]? with
    | some (.row T' sk' n' g), some (.row _ sk n2 f) => if s' = s ∧ s'' = s ∧ sk = s ∧ sk' = s ∧ T' = T ∧ k ≠ k' then
        some ⟨0 < s ∧ n ≤ n' ∧ m ≤ n2 ∧ (n + m) * b ≤ 140737488355328 ∧ n + m ≤ 140737488355328 ∧ (∀ i j, i < m → j < s → (f i j).one = true), .own h.length s (n + m), h.set k' .dead ++ [.row T s (n + m) (fun i => if i < n then g i else f (i - n))]⟩ else none
    | _, _ => none
  | .own k' s'' n, .psl s' m f => match h[k']? with
    | some (.row T' sk' n' g) => if s' = s ∧ s'' = s ∧ sk' = s ∧ T' = T then
        some ⟨0 < s ∧ n ≤ n' ∧ (n + m) * b ≤ 140737488355328 ∧ n + m ≤ 140737488355328 ∧ (∀ i j, i < m → j < s → (f i j).one = true), .own h.length s (n + m), h.set k' .dead ++ [.row T s (n + m) (fun i => if i < n then g i else f (i - n))]⟩ else none
    | _ => none
  | .nils, .psl s' m f => if s' = s then some ⟨0 < s ∧ m * b ≤ 140737488355328 ∧ m ≤ 140737488355328 ∧ (∀ i j, i < m → j < s → (f i j).one = true), .own h.length s m, h ++ [.row T s m f]⟩ else none
  | _, _ => none

/-- One operation (no call), on operands ('e0': bare or not, for what is picked). -/
def aop (op : IOp) (e e0 : Opd → AV) (h : List AO) : Option SR :=
  match op with
  | .mv x => some ⟨True, e x, h⟩
  | .pick c a b => (pick (e c) (e0 a) (e0 b)).map fun r => ⟨r.1, r.2, h⟩
  | .alloc T z => some ⟨True, .ptr h.length 0, h ++ [.cells T (KV.avs z)]⟩
  | .box T x => if (e x).fits then some ⟨True, .ptr h.length 0, h ++ [.cells T (e x).cs]⟩ else none
  | .build z ps => if (evs e ps).all (fun p => p.2.2.fits) then some ⟨fillOk (KV.avs z).length (evs e ps), .agg (fillP (KV.avs z) (evs e ps)), h⟩ else none
  | .load s a => aLoad (e a) s h
  | .store sz a x => if (e x).cs.all AV.one then aStore sz (e a) (e x) h else none
  | .nilck x => match e x with
    | .ptr n off => some ⟨True, .ptr n off, h⟩
    | .ep n s i j => some ⟨True, .ep n s i j, h⟩
    | .rp m k => some ⟨True, .rp m k, h⟩
    | _ => none
  | .bin o x y => (bin o (e x) (e y)).map fun r => ⟨r.1, r.2, h⟩
  | .eqb n x y => match e x, e y with | .bool a, .bool b => some ⟨True, .bool (neg n (a == b)), h⟩ | _, _ => none
  | .eqp n x y => (eqP (e x) (e y)).map fun b => ⟨True, .bool (neg n b), h⟩
  | .eqs n x y => (eqS (e x) (e y)).map fun b => ⟨True, negV n b, h⟩
  | .rngS x => match e x with
    | .str l => some ⟨True, .ptr h.length 0, h ++ [.siter l 0]⟩
    | _ => none
  | .nextS x => match e x with
    | .ptr n 0 => match h[n]? with
      | some (.siter l p) => if p < l.length then some ⟨l.getD p 0 < 128, .tup [.bool true, .int .i64 p, .int .i32 (l.getD p 0)], h.set n (.siter l (p + 1))⟩ else some ⟨True, .tup [.bool false], h⟩
      | _ => none
    | _ => none
  | .not x => match e x with | .bool b => some ⟨True, .bool (!b), h⟩ | _ => none
  | .conv k x => match e x with | .int _ n => some ⟨True, .int k (k.wrap n), h⟩ | _ => none
  | .b2s x => match e x with
    | .psl s n f => if s = 1 then some ⟨∀ i, i < n → isB (f i 0), .str (tabI n f), h⟩ else none
    | .nils => some ⟨True, .str [], h⟩
    | _ => none
  | .frz x => match e x with
    | .own k s n => match h[k]? with
      | some (.row _ s' n' f) => if s' = s then some ⟨n ≤ n' ∧ 0 < n, .psl s n f, h.set k .dead⟩ else none
      | _ => none
    | _ => none
  | .slice s x lo hi => (slc s (e x) (lo.map e) (hi.map e)).map fun r => ⟨r.1, r.2, h⟩
  | .fld off s x => match e x, s with
    | .agg l, none => some ⟨off < l.length, l.getD off .und, h⟩
    | .agg l, some s => some ⟨off + s ≤ l.length, .agg ((l.drop off).take s), h⟩
    | _, _ => none
  | .faddr off x => match e x with
    | .ptr n o => some ⟨True, .ptr n (o + off), h⟩
    | .ep n s i j => some ⟨True, .ep n s i (j + off), h⟩
    | .rp m k => some ⟨off ≤ m, .rp (m - off) (fun j => k (off + j)), h⟩
    | _ => none
  | .iaddr s x i => match e x, e i with
    | .psl s' n f, .int _ i => if s' = s then some ⟨0 ≤ i ∧ i < n, .rp s (f i.toNat), h⟩ else none
    | .own k s' n, .int _ i => if s' = s then some ⟨0 ≤ i ∧ i < n, .ep k s i.toNat 0, h⟩ else none
    | _, _ => none
  | .len x => match e x with
    | .psl _ n _ => some ⟨True, .int .i64 n, h⟩
    | .own _ _ n => some ⟨True, .int .i64 n, h⟩
    | .nils => some ⟨True, .int .i64 0, h⟩
    | _ => none
  | .slen x => match e x with
    | .str l => some ⟨True, .int .i64 l.length, h⟩
    | _ => none
  | .mx x y => match e x, e y with | .int k a, .int _ b => some ⟨True, .int k (if b > a then b else a), h⟩ | _, _ => none
  | .mn x y => match e x, e y with | .int k a, .int _ b => some ⟨True, .int k (if b < a then b else a), h⟩ | _, _ => none
  | .ext x i => match e x with | .tup l => some ⟨i < l.length, l.getD i .und, h⟩ | _ => none
  | .mkfn f cs => some ⟨True, .fn f (cs.map e), h⟩
  | .bslice T s len z ps => if (evs e ps).all (fun p => p.2.2.fits) then some ⟨0 < s ∧ len * s ≤ 16777216 ∧ (KV.avs z).length = s ∧ fillOk (len * s) (evs e ps), .own h.length s len, h ++ [.row T s len (fun i j => (fillP (List.flatten (List.replicate len (KV.avs z))) (evs e ps)).getD (i * s + j) .und)]⟩ else none
  | .append T s b x y => aAppend T s b (e x) (e y) h
  | _ => none

def St.put (s : St) (d : Option Nat) (v : AV) : St := match d with
  | some d => ⟨s.t.set d v, s.h⟩
  | none => s

inductive Ex where
  | normal | exit (id : Nat) | ret

/-- Is a guarded operation done? -/
def guardOf (t : List AV) (g : Option Nat × Bool) : Option Bool :=
  match g.1 with
  | some j => match t.getD j .und with
    | .bool b => some (b == g.2)
    | .cnd c (.bool b) => some (c && (b == g.2))
    | _ => none
  | none => none
end Go.AM
