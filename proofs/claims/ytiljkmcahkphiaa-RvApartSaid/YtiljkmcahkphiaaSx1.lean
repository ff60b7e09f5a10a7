/- Symbolic execution of the translated program: values with open numbers, blocks of memory by number, and what an operation makes of them. Definitions alone. -/
import Derived.WalkKit
import Derived.Deep.Quiet
import Derived.StillTail
namespace Go.Proofs.Ytiljkmcahkphiaa.Sx
open Go
set_option linter.unusedVariables false

/-- A whole number as it was computed: literals are told apart. -/
inductive IE where
  | lit (n : Int)
  | var (n : Int)
  | add (k : IntKind) (a b : IE)
  | sub (k : IntKind) (a b : IE)
  | mul (k : IntKind) (a b : IE)
  | quo (k : IntKind) (a b : IE)
  | rem (a b : IE)
  | bits (op : BinOp) (k : IntKind) (a b : IE)
  | shl (k : IntKind) (a b : IE)
  | shr (k : IntKind) (a b : IE)
  | conv (k : IntKind) (a : IE)
  | mn (a b : IE)
  | mx (a b : IE)

def shlI (k : IntKind) (x y : Int) : Int := k.wrap (x * 2 ^ (min y.toNat k.bits))
def shrI (k : IntKind) (x y : Int) : Int := x.fdiv (2 ^ (min y.toNat k.bits))
def bitsI (op : BinOp) (k : IntKind) (x y : Int) : Int :=
  let a := BitVec.ofInt k.bits x
  let b := BitVec.ofInt k.bits y
  match op with
  | .and => k.wrap (a &&& b).toNat
  | .or => k.wrap (a ||| b).toNat
  | .xor => k.wrap (a ^^^ b).toNat
  | _ => k.wrap (a &&& ~~~b).toNat

def IE.den : IE → Int
  | .lit n => n
  | .var n => n
  | .add k a b => k.wrap (a.den + b.den)
  | .sub k a b => k.wrap (a.den - b.den)
  | .mul k a b => k.wrap (a.den * b.den)
  | .quo k a b => k.wrap (a.den.tdiv b.den)
  | .rem a b => a.den.tmod b.den
  | .bits op k a b => bitsI op k a.den b.den
  | .shl k a b => shlI k a.den b.den
  | .shr k a b => shrI k a.den b.den
  | .conv k a => k.wrap a.den
  | .mn a b => if b.den < a.den then b.den else a.den
  | .mx a b => if b.den > a.den then b.den else a.den

/-- An operation of two numbers, worked out where both are literals. -/
def IE.two (f : IE → IE → IE) (a b : IE) : IE :=
  match a, b with
  | .lit x, .lit y => .lit (f (.lit x) (.lit y)).den
  | _, _ => f a b

def IE.one (f : IE → IE) (a : IE) : IE :=
  match a with
  | .lit x => .lit (f (.lit x)).den
  | _ => f a

/-- A truth value as it was computed. -/
inductive BE where
  | lit (b : Bool)
  | var (b : Bool)
  | cmp (op : BinOp) (a b : IE)
  | not (a : BE)
  | eq (a b : BE)
  | ite (c a b : BE)

def cmpI (op : BinOp) (x y : Int) : Bool :=
  match op with
  | .eql => x == y
  | .neq => x != y
  | .lss => decide (x < y)
  | .leq => decide (x ≤ y)
  | .gtr => decide (x > y)
  | _ => decide (x ≥ y)

def BE.den : BE → Bool
  | .lit b => b
  | .var b => b
  | .cmp op a b => cmpI op a.den b.den
  | .not a => !a.den
  | .eq a b => a.den == b.den
  | .ite c a b => bif c.den then a.den else b.den

def BE.cmpS (op : BinOp) (a b : IE) : BE :=
  match a, b with
  | .lit x, .lit y => .lit (cmpI op x y)
  | _, _ => .cmp op a b
def BE.notS (a : BE) : BE :=
  match a with
  | .lit b => .lit !b
  | _ => .not a
def BE.eqS (a b : BE) : BE :=
  match a, b with
  | .lit x, .lit y => .lit (x == y)
  | _, _ => .eq a b

def BE.iteS (c a b : BE) : BE :=
  match c with
  | .lit true => a
  | .lit false => b
  | _ => .ite c a b
def BE.andS (a b : BE) : BE := BE.iteS a b (.lit false)
def BE.orS (a b : BE) : BE := BE.iteS a (.lit true) b

/-- A natural number: literals are told apart. -/
inductive NE where
  | lit (n : Nat)
  | var (n : Nat)
def NE.den : NE → Nat
  | .lit n => n
  | .var n => n
def NE.ie : NE → IE
  | .lit n => .lit n
  | .var n => .var n

/-- A value: blocks of memory go by numbers of their own ('o'), in the order in which they came up. -/
inductive SV where
  | int (k : IntKind) (e : IE)
  | bool (e : BE)
  | str (s : ByteArray)
  | ptr (o off : Nat)
  | nilp
  | slice (o off : Nat) (len cap : NE)
  | nils
  | iface (t : TypeId) (v : SV)
  | nili
  | agg (vs : List SV)
  | tuple (vs : List SV)
  | func (fn : Fn) (first captured : List SV)
  | nilf
  | nilm

mutual
def SV.den (ν : Nat → Nat) : SV → Value
  | .int k e => .int k e.den
  | .bool e => .bool e.den
  | .str s => .string s
  | .ptr o off => .pointer (some ⟨ν o, off, none⟩)
  | .nilp => .pointer none
  | .slice o off len cap => .slice (some ⟨ν o, off, none⟩) len.den cap.den
  | .nils => .slice none 0 0
  | .iface t v => .iface t (v.den ν)
  | .nili => .nilIface
  | .agg vs => .agg (SV.denL ν vs).toArray
  | .tuple vs => .tuple (SV.denL ν vs).toArray
  | .func fn first captured => .func fn (SV.denL ν first).toArray (SV.denL ν captured).toArray
  | .nilf => .nilFunc
  | .nilm => .map none
def SV.denL (ν : Nat → Nat) : List SV → List Value
  | [] => []
  | v :: r => v.den ν :: SV.denL ν r
end

mutual
/-- It names blocks of p alone. -/
def SV.wf (p : Nat → Prop) : SV → Prop
  | .ptr o _ | .slice o _ _ _ => p o
  | .iface _ v => v.wf p
  | .agg vs | .tuple vs => SV.wfL p vs
  | .func _ first captured => SV.wfL p first ∧ SV.wfL p captured
  | _ => True
def SV.wfL (p : Nat → Prop) : List SV → Prop
  | [] => True
  | v :: r => v.wf p ∧ SV.wfL p r
end

def SV.one : SV → Bool
  | .agg _ | .tuple _ => false
  | _ => true
def SV.cells : SV → List SV
  | .agg vs => vs
  | v => [v]

def SV.undef : SV := .tuple []

/-- A closed value of one cell. -/
def ofValue1 : Value → Option SV
  | .int k n => some (.int k (.lit n))
  | .bool b => some (.bool (.lit b))
  | .string s => some (.str s)
  | .pointer none => some .nilp
  | .slice none 0 0 => some .nils
  | .nilIface => some .nili
  | .nilFunc => some .nilf
  | .map none => some .nilm
  | _ => none
def ofList : List Value → Option (List SV)
  | [] => some []
  | v :: r =>
    match ofValue1 v, ofList r with
    | some x, some y => some (x :: y)
    | _, _ => none
def ofValue : Value → Option SV
  | .agg cs => (ofList cs.toList).map .agg
  | .tuple cs => (ofList cs.toList).map .tuple
  | v => ofValue1 v

inductive SObj where
  | cells (vs : List SV) (ty : TypeId)
  | dead

structure St where
  tmps : List SV
  hp : List SObj

def setAt {α : Type} : List α → Nat → α → List α
  | [], _, _ => []
  | _ :: r, 0, v => v :: r
  | x :: r, n + 1, v => x :: setAt r n v

def St.put (σ : St) (d : Option Nat) (v : SV) : St :=
  match d with
  | some d => { σ with tmps := setAt σ.tmps d v }
  | none => σ

/-! What the kernel has worked out is laid down as such before it goes on. -/
def fIE (e : IE) (K : IE → Prop) : Prop :=
  match e with
  | .lit n => K (.lit n)
  | .var n => K (.var n)
  | .add k a b => K (.add k a b)
  | .sub k a b => K (.sub k a b)
  | .mul k a b => K (.mul k a b)
  | .quo k a b => K (.quo k a b)
  | .rem a b => K (.rem a b)
  | .bits op k a b => K (.bits op k a b)
  | .shl k a b => K (.shl k a b)
  | .shr k a b => K (.shr k a b)
  | .conv k a => K (.conv k a)
  | .mn a b => K (.mn a b)
  | .mx a b => K (.mx a b)
def fBE (e : BE) (K : BE → Prop) : Prop :=
  match e with
  | .lit b => K (.lit b)
  | .var b => K (.var b)
  | .cmp op a b => K (.cmp op a b)
  | .not a => K (.not a)
  | .eq a b => K (.eq a b)
  | .ite c a b => K (.ite c a b)
def fNE (e : NE) (K : NE → Prop) : Prop :=
  match e with
  | .lit n => K (.lit n)
  | .var n => K (.var n)
mutual
def fSV : SV → (SV → Prop) → Prop
  | .int k e, K => fIE e fun e => K (.int k e)
  | .bool e, K => fBE e fun e => K (.bool e)
  | .str s, K => K (.str s)
  | .ptr o off, K => K (.ptr o off)
  | .nilp, K => K .nilp
  | .slice o off len cap, K => fNE len fun len => fNE cap fun cap => K (.slice o off len cap)
  | .nils, K => K .nils
  | .iface t v, K => fSV v fun v => K (.iface t v)
  | .nili, K => K .nili
  | .agg vs, K => fSVs vs fun vs => K (.agg vs)
  | .tuple vs, K => fSVs vs fun vs => K (.tuple vs)
  | .func fn a b, K => fSVs a fun a => fSVs b fun b => K (.func fn a b)
  | .nilf, K => K .nilf
  | .nilm, K => K .nilm
def fSVs : List SV → (List SV → Prop) → Prop
  | [], K => K []
  | v :: r, K => fSV v fun v => fSVs r fun r => K (v :: r)
end
def fSpine {α : Type} : List α → (List α → Prop) → Prop
  | [], K => K []
  | v :: r, K => fSpine r fun r => K (v :: r)
def fObj (x : SObj) (K : SObj → Prop) : Prop :=
  match x with
  | .cells vs ty => fSVs vs fun vs => K (.cells vs ty)
  | .dead => K .dead
def fHp : List SObj → (List SObj → Prop) → Prop
  | [], K => K []
  | x :: r, K => fObj x fun x => fHp r fun r => K (x :: r)

def putK (σ : St) (d : Option Nat) (v : SV) (K : St → Prop) : Prop :=
  match d with
  | some d => fSV v fun v => fSpine (setAt σ.tmps d v) fun t => K { tmps := t, hp := σ.hp }
  | none => K σ
/-- The same, behind a turn of memory. -/
def putH (σ : St) (hp : List SObj) (d : Option Nat) (v : SV) (K : St → Prop) : Prop := fSpine hp fun hp => putK { σ with hp := hp } d v K

def St.eval (σ : St) : Operand → Option SV
  | .tmp t => σ.tmps[t]?
  | .const v => ofValue v
  | .global _ => none
  | .func f => some (.func (.func f) [] [])

def evalAll (σ : St) : List Operand → Option (List SV)
  | [] => some []
  | x :: r =>
    match σ.eval x, evalAll σ r with
    | some v, some l => some (v :: l)
    | _, _ => none

def isAggT (P : Program) (t : TypeId) : Bool :=
  match P.underlying t with
  | some (.struct _) | some (.array _ _) => true
  | _ => false

/-- What a variable of a type holds, at a place of a block. -/
def loadC (P : Program) (hp : List SObj) (t : TypeId) (o off : Nat) : Option SV :=
  match hp[o]?, P.underlying t, P.info? t with
  | some (.cells vs _), some _, some i =>
    if isAggT P t then (if off + i.size ≤ vs.length then some (.agg ((vs.drop off).take i.size)) else none)
    else vs[off]?
  | _, _, _ => none

def putCells : List SV → Nat → List SV → List SV
  | vs, _, [] => vs
  | vs, off, c :: r => putCells (setAt vs off c) (off + 1) r

/-- A block with a value laid at a place. -/
def storeC (P : Program) (hp : List SObj) (t : TypeId) (o off : Nat) (v : SV) : Option SObj :=
  match hp[o]?, P.info? t with
  | some (.cells vs ty), some i =>
    if v.cells.length = i.size ∧ off + i.size ≤ vs.length ∧ v.cells.all SV.one = true then some (.cells (putCells vs off v.cells) ty) else none
  | _, _ => none

def zeroOf (P : Program) (t : TypeId) : Option SV :=
  match P.info? t with
  | some i => match i.zero with
    | some v => ofValue v
    | none => none
  | none => none

def fillC (place : Nat → Option (Nat × Nat)) (cells : List SV) : List (Nat × SV) → Option (List SV)
  | [] => some cells
  | (i, v) :: rest =>
    match place i with
    | none => none
    | some (off, size) =>
      if v.cells.length = size ∧ off + v.cells.length ≤ cells.length then fillC place (putCells cells off v.cells) rest else none

def placesC (P : Program) : List Field → Option (List (Nat × Nat))
  | [] => some []
  | f :: r =>
    match P.info? f.type, placesC P r with
    | some i, some l => some ((f.offset, i.size) :: l)
    | _, _ => none

def evalParts (σ : St) : List (Nat × Operand) → Option (List (Nat × SV))
  | [] => some []
  | (i, x) :: r =>
    match σ.eval x, evalParts σ r with
    | some v, some l => some ((i, v) :: l)
    | _, _ => none

/-- What an operation asks. -/
def Holds : Option BE → Prop
  | none => True
  | some p => p.den = true

def sxInt2 (op : BinOp) (k : IntKind) (a b : IE) : Option (Option BE × SV) :=
  match op with
  | .add => some (none, .int k (IE.two (.add k) a b))
  | .sub => some (none, .int k (IE.two (.sub k) a b))
  | .mul => some (none, .int k (IE.two (.mul k) a b))
  | .quo => match b with
    | .lit n => if n = 0 then none else some (none, .int k (IE.two (.quo k) a b))
    | _ => some (some (.cmp .neq b (.lit 0)), .int k (IE.two (.quo k) a b))
  | .rem => match b with
    | .lit n => if n = 0 then none else some (none, .int k (IE.two .rem a b))
    | _ => some (some (.cmp .neq b (.lit 0)), .int k (IE.two .rem a b))
  | .and | .or | .xor | .andNot => some (none, .int k (IE.two (.bits op k) a b))
  | .eql | .neq | .lss | .leq | .gtr | .geq => some (none, .bool (BE.cmpS op a b))
  | _ => none

def sxShift (op : BinOp) (k : IntKind) (a b : IE) : Option (Option BE × SV) :=
  let r := match op with
    | .shl => IE.two (.shl k) a b
    | _ => IE.two (.shr k) a b
  match b with
  | .lit n => if n < 0 then none else some (none, .int k r)
  | _ => some (some (.cmp .geq b (.lit 0)), .int k r)

def sxPart (P : Program) (t : TypeId) (cs : List SV) (off : Nat) : Option SV :=
  match P.underlying t, P.info? t with
  | some _, some i => if isAggT P t then some (.agg ((cs.drop off).take i.size)) else cs[off]?
  | _, _ => none

/-- Are two structs' fields equal? -/
def sxEqFs (P : Program) (g : TypeId → SV → SV → Option BE) (xs ys : List SV) : List Field → Option BE
  | [] => some (.lit true)
  | f :: fs =>
    if f.name = "_" then none
    else
      match sxPart P f.type xs f.offset, sxPart P f.type ys f.offset with
      | some a, some b =>
        match g f.type a b, sxEqFs P g xs ys fs with
        | some e, some r => some (BE.andS e r)
        | _, _ => none
      | _, _ => none
/-- Are two values equal? -/
def sxEq (P : Program) : Nat → TypeId → SV → SV → Option BE
  | 0, _, _, _ => none
  | d + 1, t, x, y =>
    match P.underlying t, x, y with
    | some (.int _), .int k a, .int k' b => if k = k' then some (BE.cmpS .eql a b) else none
    | some .bool, .bool a, .bool b => some (BE.eqS a b)
    | some (.struct fs), .agg xs, .agg ys => if P.stoodInHeld t then none else sxEqFs P (sxEq P d) xs ys fs.toList
    | _, _, _ => none

def sxBin (P : Program) (op : BinOp) (t : TypeId) (x y : SV) : Option (Option BE × SV) :=
  match x, y with
  | .int k a, .int k' b =>
    match op with
    | .shl | .shr => sxShift op k a b
    | _ => if k = k' then sxInt2 op k a b else none
  | .bool a, .bool b =>
    match P.underlying t, op with
    | some .bool, .eql => some (none, .bool (BE.eqS a b))
    | some .bool, .neq => some (none, .bool (BE.notS (BE.eqS a b)))
    | _, _ => none
  | .agg xs, .agg ys =>
    if P.eqGuardType P.depth t then none
    else
      match op, sxEq P 6 t (.agg xs) (.agg ys) with
      | .eql, some e => some (none, .bool e)
      | .neq, some e => some (none, .bool (BE.notS e))
      | _, _ => none
  | _, _ => none

def sxUn (op : UnOp) (x : SV) : Option SV :=
  match op, x with
  | .neg, .int k e => some (.int k (IE.two (.sub k) (.lit 0) e))
  | .xor, .int k e => some (.int k (IE.two (.bits .xor k) (.lit (if k.signed then -1 else k.max)) e))
  | .not, .bool e => some (.bool (BE.notS e))
  | _, _ => none

def concrete (P : Program) (t : TypeId) : Bool :=
  match P.underlying t with
  | some (.interface _) => false
  | some _ => true
  | none => false

def sxAssert (P : Program) (x : SV) (asserted : TypeId) (ok : Bool) : Option SV :=
  if concrete P asserted then
    match x with
    | .iface t v =>
      if t = asserted then some (if ok then .tuple [v, .bool (.lit true)] else v)
      else if ok then (zeroOf P asserted).map fun z => .tuple [z, .bool (.lit false)] else none
    | .nili => if ok then (zeroOf P asserted).map fun z => .tuple [z, .bool (.lit false)] else none
    | _ => none
  else none

def sxField (P : Program) (s : TypeId) (x : SV) (f : Nat) : Option SV :=
  match P.underlying s, x with
  | some (.struct fs), .ptr o off =>
    match fs[f]? with
    | some fd => match P.info? fd.type with
      | some i => if i.size = 0 then none else some (.ptr o (off + fd.offset))
      | none => none
    | none => none
  | _, _ => none

def sxFieldV (P : Program) (s : TypeId) (x : SV) (f : Nat) : Option SV :=
  match P.underlying s, x with
  | some (.struct fs), .agg cs =>
    match fs[f]? with
    | some fd => sxPart P fd.type cs fd.offset
    | none => none
  | _, _ => none

/-- An element's place: a literal index, in range. -/
def sxIndexAddr (P : Program) (t : TypeId) (x ix : SV) : Option SV :=
  match P.underlying t, x, ix with
  | some (.slice e), .slice o off (.lit len) _, .int _ (.lit i) =>
    match P.info? e with
    | some inf => if 0 ≤ i ∧ i < len then some (.ptr o (off + i.toNat * inf.size)) else none
    | none => none
  | some (.array len e), .ptr o off, .int _ (.lit i) =>
    match P.info? e with
    | some inf => if 0 ≤ i ∧ i < len then some (.ptr o (off + i.toNat * inf.size)) else none
    | none => none
  | _, _, _ => none

def sxLen (P : Program) (t : TypeId) (x : SV) : Option SV :=
  match P.underlying t, x with
  | some (.slice _), .slice _ _ len _ => some (.int .i64 len.ie)
  | some (.slice _), .nils => some (.int .i64 (.lit 0))
  | some (.array n _), _ => some (.int .i64 (.lit n))
  | _, _ => none

/-- Operations that leave the world as it is: what they ask, and what they make. -/
def sxVal (P : Program) (σ : St) (op : Op) : Option (Option BE × SV) :=
  match op with
  | .move x | .assign x => (σ.eval x).map fun v => (none, v)
  | .pick c a b =>
    match σ.eval c, σ.eval a, σ.eval b with
    | some (.bool (.lit true)), some v, some _ => some (none, v)
    | some (.bool (.lit false)), some _, some v => some (none, v)
    | some (.bool e), some (.bool x), some (.bool y) => some (none, .bool (.ite e x y))
    | _, _, _ => none
  | .load t p =>
    match σ.eval p with
    | some (.ptr o off) => (loadC P σ.hp t o off).map fun v => (none, v)
    | _ => none
  | .nilCheck x =>
    match σ.eval x with
    | some (.ptr o off) => some (none, .ptr o off)
    | some (.func (.func f) fi ca) => some (none, .func (.func f) fi ca)
    | some (.iface t v) => some (none, .iface t v)
    | _ => none
  | .binOp op t x y _ =>
    match σ.eval x, σ.eval y with
    | some a, some b => sxBin P op t a b
    | _, _ => none
  | .unOp op _ x =>
    match σ.eval x with
    | some a => (sxUn op a).map fun v => (none, v)
    | _ => none
  | .convert src dst x =>
    match P.underlying src, P.underlying dst, σ.eval x with
    | some _, some (.int k), some (.int _ e) => some (none, .int k (IE.one (.conv k) e))
    | _, _, _ => none
  | .makeInterface t x =>
    match σ.eval x with
    | some v => if concrete P t then some (none, .iface t v) else none
    | none => none
  | .makeFunc fn first captured =>
    match evalAll σ first.toList, evalAll σ captured.toList with
    | some a, some b => some (none, .func fn a b)
    | _, _ => none
  | .fieldAddr s x f =>
    match σ.eval x with
    | some v => (sxField P s v f).map fun v => (none, v)
    | none => none
  | .field s x f =>
    match σ.eval x with
    | some v => (sxFieldV P s v f).map fun v => (none, v)
    | none => none
  | .indexAddr t x i =>
    match σ.eval x, σ.eval i with
    | some a, some b => (sxIndexAddr P t a b).map fun v => (none, v)
    | _, _ => none
  | .typeAssert x _ asserted ok =>
    match σ.eval x with
    | some v => (sxAssert P v asserted ok).map fun v => (none, v)
    | none => none
  | .extract x i =>
    match σ.eval x with
    | some (.tuple vs) => (vs[i]?).map fun v => (none, v)
    | _ => none
  | .build t parts =>
    match P.underlying t, zeroOf P t, evalParts σ parts.toList with
    | some (.struct fs), some z, some l =>
      match placesC P fs.toList with
      | some q => (fillC (fun i => q[i]?) z.cells l).map fun cs => (none, .agg cs)
      | none => none
    | _, _, _ => none
  | .call c =>
    match c.callee, c.args.toList with
    | .builtin .len, [x] =>
      match c.argTypes[0]?, σ.eval x with
      | some t, some v => (sxLen P t v).map fun v => (none, v)
      | _, _ => none
    | .builtin .min, [x, y] =>
      match σ.eval x, σ.eval y with
      | some (.int k a), some (.int k' b) => if k = k' then some (none, .int k (IE.two .mn a b)) else none
      | _, _ => none
    | .builtin .max, [x, y] =>
      match σ.eval x, σ.eval y with
      | some (.int k a), some (.int k' b) => if k = k' then some (none, .int k (IE.two .mx a b)) else none
      | _, _ => none
    | _, _ => none
  | _ => none

/-- What a call of a function makes: of arguments and memory, whatever may follow. -/
abbrev SpecFn := List SV → List SObj → (SV → List SObj → Prop) → Prop

/-- What a function of its arguments alone makes of them. -/
abbrev PureFn := List SV → Option (Option BE × SV)

/-- What a call may come to: a guess, never leaned on. -/
abbrev Guess := List SV → List SObj → Option (SV × List SObj)

inductive Cal where
  | pure (F : PureFn)
  | spec (s : SpecFn) (g : Guess)

/-- The callee and all its arguments. -/
def sxCallee (P : Program) (σ : St) (c : Call) : Option (FuncId × List SV) :=
  match evalAll σ c.args.toList with
  | some args =>
    match c.callee with
    | .value f =>
      match σ.eval f with
      | some (.func (.func g) first captured) => some (g, first ++ args ++ captured)
      | _ => none
    | .invoke r name =>
      match σ.eval r with
      | some (.iface t v) =>
        match P.info? t with
        | some i =>
          match i.methods.find? (·.name == name) with
          | some m =>
            if m.path.isEmpty then
              match m.func, P.underlying t with
              | some (g, true), some (.pointer _) => some (g, v :: args)
              | some (g, false), some (.pointer _) => none
              | some (g, false), some _ => some (g, v :: args)
              | _, _ => none
            else none
          | none => none
        | none => none
      | _ => none
    | .builtin _ => none
  | none => none

def entered (P : Program) (g : FuncId) : Bool :=
  match P.funcs[g]? with
  | some fn => !(fn.name == "runtime.NumGoroutine") && fn.body.isSome
  | none => false

/-- What this text can't run: it is never so. -/
inductive Stuck (o : Op) : Prop
inductive StuckAt (c : Nat) : Prop

/-- A new block: behind the others, or at a place that is kept for it. -/
def layK (σ : St) (k : Option Nat) (x : SObj) (d : Option Nat) (f : Nat → SV) (K : St → Prop) : Prop :=
  fObj x fun x =>
    match k with
    | none => putH σ (σ.hp ++ [x]) d (f σ.hp.length) K
    | some k =>
      match σ.hp[k]? with
      | some .dead => putH σ (setAt σ.hp k x) d (f k) K
      | _ => StuckAt 7000000

/-- One operation, and what follows. -/
def sxOper (P : Program) (Γ : FuncId → Option Cal) (k : Option Nat) (o : Oper) (σ : St) (K : St → Prop) : Prop :=
  match o.op with
  | .alloc e =>
    match zeroOf P e with
    | some z => layK σ k (.cells z.cells e) o.dst (fun b => .ptr b 0) K
    | none => False
  | .box e x =>
    match σ.eval x with
    | some v => layK σ k (.cells v.cells e) o.dst (fun b => .ptr b 0) K
    | none => False
  | .buildSlice t len parts =>
    match P.underlying t, evalParts σ parts.toList with
    | some (.slice e), some l =>
      match P.info? e, zeroOf P e with
      | some i, some z =>
        if len * i.size ≤ 1000000 ∧ z.cells.length = i.size ∧ 0 < len * i.size then
          match fillC (fun j => some (j * i.size, i.size)) ((List.range (len * i.size)).map fun j => z.cells.getD (j % i.size) SV.undef) l with
          | some cs => layK σ k (.cells cs e) o.dst (fun b => .slice b 0 (.lit len) (.lit len)) K
          | none => False
        else False
      | _, _ => False
    | _, _ => False
  | .store t p x =>
    match σ.eval p, σ.eval x with
    | some (.ptr ob off), some v =>
      match storeC P σ.hp t ob off v with
      | some x => fObj x fun x => putH σ (setAt σ.hp ob x) o.dst SV.undef K
      | none => False
    | _, _ => False
  | op =>
    match sxVal P σ op with
    | some (none, v) => putK σ o.dst v K
    | some (some p, v) => p.den = true ∧ putK σ o.dst v K
    | none =>
      match op with
      | .call c =>
        match sxCallee P σ c with
        | some (g, args) =>
          if entered P g then
            match Γ g with
            | some (.spec s _) => s args σ.hp fun v hp => putH σ (hp) o.dst v K
            | some (.pure F) =>
              match F args with
              | some (none, v) => putK σ o.dst v K
              | some (some p, v) => p.den = true ∧ putK σ o.dst v K
              | none => StuckAt g
            | none => StuckAt g
          else Stuck op
        | none => Stuck op
      | _ => Stuck op

/-- The slot that says whether an operation is wanted. -/
def guardS (ops : List Oper) (o : Oper) : Option (Option (Nat × Bool)) :=
  match o.guard with
  | none => some none
  | some (j, b) =>
    match ops[j]? with
    | some oj =>
      match oj.dst with
      | some d => some (some (d, b))
      | none => none
    | none => none

/-- A slot whose truth value has been asked. -/
def St.told (σ : St) (x : Operand) (b : Bool) : St :=
  match x with
  | .tmp d => { σ with tmps := setAt σ.tmps d (.bool (.lit b)) }
  | _ => σ

/-- Both ways of a test. -/
def Way (e : BE) (A B : Prop) : Prop :=
  match e with
  | .lit true => A
  | .lit false => B
  | e => (e.den = true → A) ∧ (e.den = false → B)

def sxOps (P : Program) (Γ : FuncId → Option Cal) (ops : List Oper) : List Oper → St → (St → Prop) → Prop
  | [], σ, K => K σ
  | o :: rest, σ, K =>
    match guardS ops o with
    | some none => sxOper P Γ none o σ fun σ' => sxOps P Γ ops rest σ' K
    | some (some (d, b)) =>
      match σ.tmps[d]? with
      | some (.bool e) => Way e
        (if b then sxOper P Γ none o (σ.told (.tmp d) true) fun σ' => sxOps P Γ ops rest σ' K else sxOps P Γ ops rest ((σ.told (.tmp d) true).put o.dst SV.undef) K)
        (if b then sxOps P Γ ops rest ((σ.told (.tmp d) false).put o.dst SV.undef) K else sxOper P Γ none o (σ.told (.tmp d) false) fun σ' => sxOps P Γ ops rest σ' K)
      | some (.tuple []) => sxOps P Γ ops rest (σ.put o.dst SV.undef) K
      | _ => False
    | none => False

/-- An operation that leaves the world as it is, or calls a function of its arguments alone. -/
def sxQuiet1 (P : Program) (Γ : FuncId → Option Cal) (σ : St) (op : Op) : Option (Option BE × SV) :=
  match sxVal P σ op with
  | some r => some r
  | none =>
    match op with
    | .call c =>
      match sxCallee P σ c with
      | some (g, args) =>
        if entered P g then
          match Γ g with
          | some (.pure F) => F args
          | _ => none
        else none
      | none => none
    | _ => none

/-- What is asked, and what follows. -/
def withVal (r : Option (Option BE × SV)) (o : Op) (f : SV → Prop) : Prop :=
  match r with
  | some (none, v) => f v
  | some (some p, v) => p.den = true ∧ f v
  | none => Stuck o

/-- Operations of a region whose order is open: each by itself, 'one' says what it makes. -/
def sxStill (one : St → Op → Option (Option BE × SV)) (ops : List Oper) : List Oper → St → (St → Prop) → Prop
  | [], σ, K => K σ
  | o :: rest, σ, K =>
    match guardS ops o with
    | some none => withVal (one σ o.op) o.op fun v => putK σ o.dst v fun σ => sxStill one ops rest σ K
    | some (some (d, b)) =>
      match σ.tmps[d]? with
      | some (.bool e) => Way e
        (if b then withVal (one (σ.told (.tmp d) true) o.op) o.op (fun v => putK (σ.told (.tmp d) true) o.dst v fun σ => sxStill one ops rest σ K) else sxStill one ops rest ((σ.told (.tmp d) true).put o.dst SV.undef) K)
        (if b then sxStill one ops rest ((σ.told (.tmp d) false).put o.dst SV.undef) K else withVal (one (σ.told (.tmp d) false) o.op) o.op (fun v => putK (σ.told (.tmp d) false) o.dst v fun σ => sxStill one ops rest σ K))
      | some (.tuple []) => sxStill one ops rest (σ.put o.dst SV.undef) K
      | _ => False
    | none => False

/-- Does it turn memory? -/
def loudOp : Op → Bool
  | .alloc _ | .box _ _ | .buildSlice _ _ _ | .store _ _ _ | .makeSlice _ _ _ | .makeMap _ _ | .mapUpdate _ _ _ _ | .insert _ _ _ _ | .mapEntry _ _ _ | .entryStore _ _ _ _ | .range _ _ | .next _ _ => true
  | .call c =>
    match c.callee with
    | .builtin .append | .builtin .copy | .builtin .delete => true
    | _ => false
  | _ => false

def callOp : Op → Bool
  | .call c =>
    match c.callee with
    | .builtin _ => false
    | _ => true
  | _ => false

/-- A call of a function of its arguments alone, or no call at all. -/
def quietOp (P : Program) (Γ : FuncId → Option Cal) (σ : St) : Op → Bool
  | .call c =>
    match c.callee with
    | .builtin _ => true
    | .value (.func g) => match Γ g with
      | some (.pure _) => true
      | _ => false
    | .value x => match σ.eval x with
      | some (.func (.func g) _ _) => match Γ g with
        | some (.pure _) => true
        | _ => false
      | _ => false
    | _ => false
  | _ => true

def quietLen : List Oper → Nat
  | [] => 0
  | o :: r => if loudOp o.op then 0 else quietLen r + 1

/-- Does it lay a block? -/
def layOp : Op → Bool
  | .alloc _ | .box _ _ | .buildSlice _ _ _ => true
  | _ => false

/-- How many blocks are laid ahead of an operation, in the text's order. -/
def laidBefore (ops : List Oper) (i : Nat) : Nat := ((ops.take i).filter fun o => layOp o.op).length

/-- One operation of a region whose order is open. -/
def sxStep (P : Program) (Γ : FuncId → Option Cal) (ops : List Oper) (base i : Nat) (o : Oper) (σ : St) (K : St → Prop) : Prop :=
  let k := if layOp o.op then some (base + laidBefore ops i) else none
  match guardS ops o with
  | some none => sxOper P Γ k o σ K
  | some (some (d, b)) =>
    match σ.tmps[d]? with
    | some (.bool e) => Way e
      (if b then sxOper P Γ k o (σ.told (.tmp d) true) K else putK (σ.told (.tmp d) true) o.dst SV.undef K)
      (if b then putK (σ.told (.tmp d) false) o.dst SV.undef K else sxOper P Γ k o (σ.told (.tmp d) false) K)
    | some (.tuple []) => putK σ o.dst SV.undef K
    | _ => False
  | none => False

/-- What an operation makes that looks at no memory, where it is known whether it is wanted. -/
def takeS (P : Program) (ops : List Oper) (o : Oper) (σ : St) : Option SV :=
  let v := match sxVal P { σ with hp := [] } o.op with
    | some (none, v) => some v
    | _ => none
  match guardS ops o with
  | some none => v
  | some (some (d, b)) =>
    match σ.tmps[d]? with
    | some (.bool (.lit e)) => if e = b then v else some SV.undef
    | some (.tuple []) => some SV.undef
    | _ => none
  | none => none

/-- A load from a block that stays as it is. -/
def loadS (P : Program) (st : List Nat) (ops : List Oper) (o : Oper) (σ : St) : Option SV :=
  match o.op with
  | .load t p =>
    match σ.eval p with
    | some (.ptr ob off) =>
      if st.contains ob then
        match guardS ops o with
        | some none => loadC P σ.hp t ob off
        | _ => none
      else none
    | _ => none
  | _ => none

def firstTake (P : Program) (st : List Nat) (ops : List Oper) (listed : Array Bool) (σ : St) : List Nat → Option (Nat × Oper × SV)
  | [] => none
  | i :: r =>
    match ops[i]? with
    | some o =>
      match takeS P ops o σ with
      | some v => if Region.free .any ops.toArray listed i then some (i, o, v) else firstTake P st ops listed σ r
      | none =>
        match loadS P st ops o σ with
        | some v => if Region.free .any ops.toArray listed i then some (i, o, v) else firstTake P st ops listed σ r
        | none => firstTake P st ops listed σ r
    | none => firstTake P st ops listed σ r

def allOf : List Nat → (Nat → Prop) → Prop
  | [], _ => True
  | [i], f => f i
  | i :: r, f => f i ∧ allOf r f

/-! The same state, as far as can be seen: the rest is asked. -/
def sameIE : IE → IE → Prop → Prop
  | .lit a, .lit b, R => if a = b then R else StuckAt 1
  | .var a, .var b, R => a = b ∧ R
  | .add k a b, .add k' a' b', R | .sub k a b, .sub k' a' b', R | .mul k a b, .mul k' a' b', R | .quo k a b, .quo k' a' b', R | .shl k a b, .shl k' a' b', R | .shr k a b, .shr k' a' b', R =>
    if k = k' then sameIE a a' (sameIE b b' R) else StuckAt 2
  | .rem a b, .rem a' b', R | .mn a b, .mn a' b', R | .mx a b, .mx a' b', R => sameIE a a' (sameIE b b' R)
  | .bits op k a b, .bits op' k' a' b', R => if op = op' ∧ k = k' then sameIE a a' (sameIE b b' R) else StuckAt 3
  | .conv k a, .conv k' a', R => if k = k' then sameIE a a' R else StuckAt 4
  | _, _, _ => StuckAt 5
def sameBE : BE → BE → Prop → Prop
  | .lit a, .lit b, R => if a = b then R else StuckAt 6
  | .var a, .var b, R => a = b ∧ R
  | .cmp op a b, .cmp op' a' b', R => if op = op' then sameIE a a' (sameIE b b' R) else StuckAt 7
  | .not a, .not a', R => sameBE a a' R
  | .eq a b, .eq a' b', R => sameBE a a' (sameBE b b' R)
  | .ite c a b, .ite c' a' b', R => sameBE c c' (sameBE a a' (sameBE b b' R))
  | _, _, _ => StuckAt 8
def sameNE : NE → NE → Prop → Prop
  | .lit a, .lit b, R => if a = b then R else StuckAt 9
  | .var a, .var b, R => a = b ∧ R
  | _, _, _ => StuckAt 10
mutual
def sameSV : SV → SV → Prop → Prop
  | .int k e, .int k' e', R => if k = k' then sameIE e e' R else StuckAt 11
  | .bool e, .bool e', R => sameBE e e' R
  | .str s, .str s', R => if s.data.toList = s'.data.toList then R else s = s' ∧ R
  | .ptr o off, .ptr o' off', R => if o = o' ∧ off = off' then R else StuckAt 12
  | .nilp, .nilp, R | .nils, .nils, R | .nili, .nili, R | .nilf, .nilf, R | .nilm, .nilm, R => R
  | .slice o off l c, .slice o' off' l' c', R => if o = o' ∧ off = off' then sameNE l l' (sameNE c c' R) else StuckAt 13
  | .iface t v, .iface t' v', R => if t = t' then sameSV v v' R else StuckAt 14
  | .agg l, .agg l', R | .tuple l, .tuple l', R => sameSVs l l' R
  | .func fn a b, .func fn' a' b', R => if fn = fn' then sameSVs a a' (sameSVs b b' R) else StuckAt 15
  | _, _, _ => StuckAt 16
def sameSVs : List SV → List SV → Prop → Prop
  | [], [], R => R
  | v :: r, v' :: r', R => sameSV v v' (sameSVs r r' R)
  | _, _, _ => StuckAt 17
end
def sameHp : List SObj → List SObj → Prop → Prop
  | [], [], R => R
  | .cells l t :: r, .cells l' t' :: r', R => if t = t' then sameSVs l l' (sameHp r r' R) else StuckAt 18
  | .dead :: r, .dead :: r', R => sameHp r r' R
  | _, _, _ => StuckAt 19
def sameObjs (hp hp' : List SObj) : List Nat → Prop → Prop
  | [], R => R
  | o :: r, R =>
    match hp[o]?, hp'[o]? with
    | some (.cells l t), some (.cells l' t') => if t = t' then sameSVs l l' (sameObjs hp hp' r R) else StuckAt 20
    | _, _ => StuckAt 21

/-- Whatever order is picked. 'st': blocks that stay as they are in 'h0'. -/
def sxAny (P : Program) (Γ : FuncId → Option Cal) (st : List Nat) (h0 : List SObj) (ops : List Oper) (base : Nat) : Nat → Array Bool → St → (St → Prop) → Prop
  | 0, listed, σ, K => if (Region.ready .any ops.toArray listed).isEmpty then K σ else StuckAt 8000000
  | fuel + 1, listed, σ, K =>
    match Region.ready .any ops.toArray listed with
    | [] => K σ
    | i :: r =>
      match firstTake P st ops listed σ (i :: r) with
      | some (j, o, v) => putK σ o.dst v fun σ' => sxAny P Γ st h0 ops base fuel (listed.setIfInBounds j true) σ' K
      | none => allOf (i :: r) fun j =>
        match ops[j]? with
        | some o => sxStep P Γ ops base j o σ fun σ' => sameObjs σ'.hp h0 st (sxAny P Γ st h0 ops base fuel (listed.setIfInBounds j true) σ' K)
        | none => StuckAt 9000000

/-! A guess at what code comes to, where nothing is open: never leaned on. -/
def vxLay (σ : St) (k : Option Nat) (x : SObj) (d : Option Nat) (f : Nat → SV) : Option St :=
  match k with
  | none => some (St.put { σ with hp := σ.hp ++ [x] } d (f σ.hp.length))
  | some k => some (St.put { σ with hp := setAt σ.hp k x } d (f k))

def vxOper (P : Program) (Γ : FuncId → Option Cal) (k : Option Nat) (o : Oper) (σ : St) : Option St :=
  match o.op with
  | .alloc e =>
    match zeroOf P e with
    | some z => vxLay σ k (.cells z.cells e) o.dst (fun b => .ptr b 0)
    | none => none
  | .box e x =>
    match σ.eval x with
    | some v => vxLay σ k (.cells v.cells e) o.dst (fun b => .ptr b 0)
    | none => none
  | .buildSlice t len parts =>
    match P.underlying t, evalParts σ parts.toList with
    | some (.slice e), some l =>
      match P.info? e, zeroOf P e with
      | some i, some z =>
        match fillC (fun j => some (j * i.size, i.size)) ((List.range (len * i.size)).map fun j => z.cells.getD (j % i.size) SV.undef) l with
        | some cs => vxLay σ k (.cells cs e) o.dst (fun b => .slice b 0 (.lit len) (.lit len))
        | none => none
      | _, _ => none
    | _, _ => none
  | .store t p x =>
    match σ.eval p, σ.eval x with
    | some (.ptr ob off), some v => (storeC P σ.hp t ob off v).map fun x => St.put { σ with hp := setAt σ.hp ob x } o.dst SV.undef
    | _, _ => none
  | op =>
    match sxVal P σ op with
    | some (_, v) => some (σ.put o.dst v)
    | none =>
      match op with
      | .call c =>
        match sxCallee P σ c with
        | some (g, args) =>
          match Γ g with
          | some (.spec _ gu) => (gu args σ.hp).map fun r => St.put { σ with hp := r.2 } o.dst r.1
          | some (.pure F) => (F args).map fun r => σ.put o.dst r.2
          | none => none
        | none => none
      | _ => none

def vxStep (P : Program) (Γ : FuncId → Option Cal) (ops : List Oper) (k : Option Nat) (o : Oper) (σ : St) : Option St :=
  match guardS ops o with
  | some none => vxOper P Γ k o σ
  | some (some (d, b)) =>
    match σ.tmps[d]? with
    | some (.bool (.lit e)) => if e = b then vxOper P Γ k o σ else some (σ.put o.dst SV.undef)
    | some (.tuple []) => some (σ.put o.dst SV.undef)
    | _ => none
  | none => none

def vxOps (P : Program) (Γ : FuncId → Option Cal) (ops : List Oper) : List Oper → St → Option St
  | [], σ => some σ
  | o :: r, σ =>
    match vxStep P Γ ops none o σ with
    | some σ' => vxOps P Γ ops r σ'
    | none => none

def vxLex (P : Program) (Γ : FuncId → Option Cal) (ops : List Oper) (base : Nat) : Nat → List Oper → St → Option St
  | _, [], σ => some σ
  | i, o :: r, σ =>
    match vxStep P Γ ops (if layOp o.op then some (base + laidBefore ops i) else none) o σ with
    | some σ' => vxLex P Γ ops base (i + 1) r σ'
    | none => none

inductive SExit where
  | normal
  | exit (id : Nat)
  | ret

def vxLoop (f : St → Option (SExit × St)) : Nat → St → Option (SExit × St)
  | 0, _ => none
  | n + 1, σ =>
    match f σ with
    | some (.normal, σ') => vxLoop f n σ'
    | r => r

def vxCode (P : Program) (Γ : FuncId → Option Cal) : Code → St → Option (SExit × St)
  | .skip, σ | .label _, σ => some (.normal, σ)
  | .region _ ops draw, σ =>
    if draw then
      if quietLen ops.toList = ops.toList.length then (vxOps P Γ ops.toList ops.toList σ).map fun σ => (.normal, σ)
      else (vxLex P Γ ops.toList σ.hp.length 0 ops.toList { σ with hp := σ.hp ++ List.replicate (laidBefore ops.toList ops.toList.length) .dead }).map fun σ => (.normal, σ)
    else (vxOps P Γ ops.toList ops.toList σ).map fun σ => (.normal, σ)
  | .seq a b, σ =>
    match vxCode P Γ a σ with
    | some (.normal, σ') => vxCode P Γ b σ'
    | r => r
  | .cond c x y, σ =>
    match σ.eval c with
    | some (.bool (.lit true)) => vxCode P Γ x σ
    | some (.bool (.lit false)) => vxCode P Γ y σ
    | _ => none
  | .block id c, σ =>
    match vxCode P Γ c σ with
    | some (.exit i, σ') => if i = id then some (.normal, σ') else some (.exit i, σ')
    | r => r
  | .loop c, σ => vxLoop (vxCode P Γ c) 100 σ
  | .exit id, σ => some (.exit id, σ)
  | .ret, σ => some (.ret, σ)
  | _, _ => none

def sameSt (σ σ' : St) : Prop := sameSVs σ.tmps σ'.tmps (sameHp σ.hp σ'.hp True)

/-- Blocks that a region loads from. -/
def loadsOf (σ : St) : List Oper → List Nat
  | [] => []
  | o :: r =>
    match o.op with
    | .load _ p =>
      match σ.eval p with
      | some (.ptr ob _) => if (loadsOf σ r).contains ob then loadsOf σ r else ob :: loadsOf σ r
      | _ => loadsOf σ r
    | _ => loadsOf σ r
def staying (h h' : List SObj) : List Nat → List Nat
  | [] => []
  | o :: r =>
    match h[o]?, h'[o]? with
    | some (.cells _ _), some (.cells _ _) => o :: staying h h' r
    | _, _ => staying h h' r
def storesOf (σ : St) : List Oper → List Nat
  | [] => []
  | o :: r =>
    match o.op with
    | .store _ p _ =>
      match σ.eval p with
      | some (.ptr ob _) => ob :: storesOf σ r
      | _ => storesOf σ r
    | _ => storesOf σ r

/-- A region whose order is open: what the text's order comes to, and that every order comes to the same. -/
def sxOpen (P : Program) (Γ : FuncId → Option Cal) (ops : List Oper) (σ : St) (K : St → Prop) : Prop :=
  if Region.noSelect ops.toArray then
    fSpine (σ.hp ++ List.replicate (laidBefore ops ops.length) .dead) fun hp =>
      match vxLex P Γ ops σ.hp.length 0 ops { σ with hp := hp } with
      | some σL => fSVs σL.tmps fun tL => fHp σL.hp fun hL => K { tmps := tL, hp := hL } ∧
          sxAny P Γ (staying hp hL ((loadsOf { tmps := tL, hp := hL } ops).filter fun o => !(storesOf { tmps := tL, hp := hL } ops).contains o)) hp ops σ.hp.length ops.length (Array.replicate ops.length false) { σ with hp := hp } (fun σ' => sameSt σ' { tmps := tL, hp := hL })
      | none => StuckAt 4000000
  else StuckAt 4000001

def sxDraw (P : Program) (Γ : FuncId → Option Cal) (ops : List Oper) (σ : St) (K : St → Prop) : Prop :=
  if P.follows .mixedOrders then
    if quietLen ops = ops.length then
      if Region.lexB .any ops.toArray && ops.all (fun o => quietOp P Γ σ o.op) then sxStill (sxQuiet1 P Γ) ops ops σ K else sxOpen P Γ ops σ K
    else if Region.lexTailB .any ops.toArray (quietLen ops) && (ops.take (quietLen ops)).all (fun o => !callOp o.op) then
      sxStill (sxVal P) ops (ops.take (quietLen ops)) σ fun σ' => sxOps P Γ ops (ops.drop (quietLen ops)) σ' K
    else sxOpen P Γ ops σ K
  else StuckAt 6000000

def thenS (next : St → Prop) (K : SExit → St → Prop) : SExit → St → Prop
  | .normal, σ => next σ
  | e, σ => K e σ

def inBlockS (id : Nat) (K : SExit → St → Prop) : SExit → St → Prop
  | .exit i, σ => if i = id then K .normal σ else K (.exit i) σ
  | e, σ => K e σ

/-! Blocks that nothing names any more are let go. -/
mutual
def idsSV : SV → List Nat → List Nat
  | .ptr o _, l | .slice o _ _ _, l => if l.contains o then l else o :: l
  | .iface _ v, l => idsSV v l
  | .agg vs, l | .tuple vs, l => idsSVs vs l
  | .func _ a b, l => idsSVs b (idsSVs a l)
  | _, l => l
def idsSVs : List SV → List Nat → List Nat
  | [], l => l
  | v :: r, l => idsSVs r (idsSV v l)
end
def idsObjs (hp : List SObj) : List Nat → List Nat → List Nat
  | [], l => l
  | o :: r, l =>
    match hp[o]? with
    | some (.cells vs _) => idsObjs hp r (idsSVs vs l)
    | _ => idsObjs hp r l
def reach (hp : List SObj) : Nat → List Nat → List Nat
  | 0, l => l
  | n + 1, l =>
    let l' := idsObjs hp l l
    if l'.length = l.length then l else reach hp n l'
def keepHp (n0 : Nat) (keep : List Nat) : Nat → List SObj → List SObj
  | _, [] => []
  | i, x :: r => (if i < n0 then x else if keep.contains i then x else .dead) :: keepHp n0 keep (i + 1) r
def liveB (hp : List SObj) (o : Nat) : Bool :=
  match hp[o]? with
  | some (.cells _ _) => true
  | _ => false
mutual
def okSV (hp : List SObj) : SV → Bool
  | .ptr o _ | .slice o _ _ _ => liveB hp o
  | .iface _ v => okSV hp v
  | .agg vs | .tuple vs => okSVs hp vs
  | .func _ a b => okSVs hp a && okSVs hp b
  | _ => true
def okSVs (hp : List SObj) : List SV → Bool
  | [] => true
  | v :: r => okSV hp v && okSVs hp r
end
def okObj (hp : List SObj) : SObj → Bool
  | .cells vs _ => okSVs hp vs
  | .dead => true
/-- Blocks below n0 are the caller's: they stay. -/
def gcK (n0 : Nat) (σ : St) (K : St → Prop) : Prop :=
  fSpine (keepHp n0 (reach σ.hp 6 (idsSVs σ.tmps [])) 0 σ.hp) fun hp =>
    if okSVs hp σ.tmps && hp.all (okObj hp) then K { σ with hp := hp } else K σ

def loopN (n0 : Nat) (f : St → (SExit → St → Prop) → Prop) (K : SExit → St → Prop) : Nat → St → Prop
  | 0, _ => StuckAt 2000000
  | n + 1, σ => gcK n0 σ fun σ => f σ (thenS (loopN n0 f K n) K)

/-- A loop by what holds at its head. -/
def loopI (f : St → (SExit → St → Prop) → Prop) (K : SExit → St → Prop) (σ : St) : Prop :=
  ∃ (I : St → Prop) (μ : St → Nat), I σ ∧ ∀ σ', I σ' → f σ' (thenS (fun σ'' => I σ'' ∧ μ σ'' < μ σ') K)

/-- Code, and what follows. 'un': how many rounds of a loop are laid out, by the block that it stands in (0: by what holds at its head). -/
def sxCode (P : Program) (Γ : FuncId → Option Cal) (un : Nat → Nat) (n0 : Nat) : Code → Nat → St → (SExit → St → Prop) → Prop
  | .skip, _, σ, K => K .normal σ
  | .label _, _, σ, K => K .normal σ
  | .region _ ops draw, _, σ, K => if draw then sxDraw P Γ ops.toList σ (K .normal) else sxOps P Γ ops.toList ops.toList σ (K .normal)
  | .seq a b, bid, σ, K => sxCode P Γ un n0 a bid σ (thenS (fun σ' => sxCode P Γ un n0 b bid σ' K) K)
  | .cond c x y, bid, σ, K =>
    match σ.eval c with
    | some (.bool e) => Way e (sxCode P Γ un n0 x bid (σ.told c true) K) (sxCode P Γ un n0 y bid (σ.told c false) K)
    | _ => False
  | .block id c, _, σ, K => sxCode P Γ un n0 c id σ (inBlockS id K)
  | .loop c, bid, σ, K =>
    match un bid with
    | 0 => loopI (fun σ' K' => sxCode P Γ un n0 c bid σ' K') K σ
    | n + 1 => loopN n0 (fun σ' K' => sxCode P Γ un n0 c bid σ' K') K (n + 1) σ
  | .exit id, _, σ, K => K (.exit id) σ
  | .ret, _, σ, K => K .ret σ
  | _, _, _, _ => StuckAt 3000000

def sxResult1 (P : Program) (σ : St) : ResultVar → Option SV
  | .tmp t => σ.tmps[t]?
  | .cell a t =>
    match σ.tmps[a]? with
    | some (.ptr o off) => loadC P σ.hp t o off
    | _ => none
def sxResults (P : Program) (σ : St) : List ResultVar → Option (List SV)
  | [] => some []
  | r :: rest =>
    match sxResult1 P σ r, sxResults P σ rest with
    | some v, some l => some (v :: l)
    | _, _ => none

def single : List SV → SV
  | [v] => v
  | l => .tuple l

/-- A function's call. -/
def sxFunc (P : Program) (Γ : FuncId → Option Cal) (un : Nat → Nat) (fn : Func) : SpecFn := fun args hp K =>
  match fn.body with
  | some c => fSpine (args ++ List.replicate (fn.ntmps - args.length) SV.undef) fun t => sxCode P Γ un hp.length c 0 { tmps := t, hp := hp } fun e σ =>
    match e with
    | .exit _ => False
    | _ => match sxResults P σ fn.results.toList with
      | some vs => K (single vs) σ.hp
      | none => False
  | none => False

def vxFunc (P : Program) (Γ : FuncId → Option Cal) (fn : Func) : Guess := fun args hp =>
  match fn.body with
  | some c =>
    match vxCode P Γ c { tmps := args ++ List.replicate (fn.ntmps - args.length) SV.undef, hp := hp } with
    | some (_, σ) => (sxResults P σ fn.results.toList).map fun vs => (single vs, σ.hp)
    | none => none
  | none => none

/-- Calls are laid out in place, so deep; but for those that a table tells. -/
noncomputable def inl (P : Program) (un : FuncId → Nat → Nat) (T : FuncId → Option Cal) : Nat → FuncId → Option Cal
  | 0, _ => none
  | d + 1, g =>
    match T g with
    | some s => some s
    | none => match P.funcs[g]? with
      | some fn => some (.spec (sxFunc P (inl P un T d) (un g) fn) (vxFunc P (inl P un T d) fn))
      | none => none

def table : List (FuncId × Cal) → FuncId → Option Cal
  | [], _ => none
  | (f, s) :: r, g => if g = f then some s else table r g

end Go.Proofs.Ytiljkmcahkphiaa.Sx
