/- Symbolic execution of the translated program: values with open numbers, blocks of memory by number, and what an operation makes of them. Definitions alone. -/
import Derived.WalkKit
import Derived.Deep.Quiet
import Derived.StillTail
set_option linter.unusedVariables false
set_option linter.unusedSimpArgs false
namespace Go.Proofs.YtajcmjjgnbaahaaGreat.Sx
open Go
noncomputable section
inductive IE where
  | lit (n : Int)
  | var (n : Int)
  | add (k : IntKind) (a b : IE)
  | sub (k : IntKind) (a b : IE)
  | mul (k : IntKind) (a b : IE)
  | quo (k : IntKind) (a b : IE)
  | rem (a b : IE)
  | bits (op : BinOp) (k : IntKind) (a b : IE)
  | shl (k : IntKind) (a b : IE)
  | shr (k : IntKind) (a b : IE)
  | conv (k : IntKind) (a : IE)
  | mn (a b : IE)
  | mx (a b : IE)
def shlI (k : IntKind) (x y : Int) : Int := k.wrap (x * 2 ^ (min y.toNat k.bits))
def shrI (k : IntKind) (x y : Int) : Int := x.fdiv (2 ^ (min y.toNat k.bits))
def zAy (op : BinOp) (k : IntKind) (x y : Int) : Int :=
  let a := BitVec.ofInt k.bits x
  let b := BitVec.ofInt k.bits y
  match op with
  | .and => k.wrap (a &&& b).toNat
  | .or => k.wrap (a ||| b).toNat
  | .xor => k.wrap (a ^^^ b).toNat
  | _ => k.wrap (a &&& ~~~b).toNat
def IE.den : IE -> Int
  | .lit n => n
  | .var n => n
  | .add k a b => k.wrap (a.den + b.den)
  | .sub k a b => k.wrap (a.den - b.den)
  | .mul k a b => k.wrap (a.den * b.den)
  | .quo k a b => k.wrap (a.den.tdiv b.den)
  | .rem a b => a.den.tmod b.den
  | .bits op k a b => zAy op k a.den b.den
  | .shl k a b => shlI k a.den b.den
  | .shr k a b => shrI k a.den b.den
  | .conv k a => k.wrap a.den
  | .mn a b => if b.den < a.den then b.den else a.den
  | .mx a b => if b.den > a.den then b.den else a.den
def IE.two (f : IE -> IE -> IE) (a b : IE) : IE :=
  match a, b with
  | .lit x, .lit y => .lit (f (.lit x) (.lit y)).den
  | _, _ => f a b
def IE.one (f : IE -> IE) (a : IE) : IE :=
  match a with
  | .lit x => .lit (f (.lit x)).den
  | _ => f a
inductive BE where
  | lit (b : Bool)
  | var (b : Bool)
  | cmp (op : BinOp) (a b : IE)
  | not (a : BE)
  | eq (a b : BE)
  | ite (c a b : BE)
def cmpI (op : BinOp) (x y : Int) : Bool :=
  match op with
  | .eql => x == y
  | .neq => x != y
  | .lss => decide (x < y)
  | .leq => decide (x <= y)
  | .gtr => decide (x > y)
  | _ => decide (x >= y)
def BE.den : BE -> Bool
  | .lit b => b
  | .var b => b
  | .cmp op a b => cmpI op a.den b.den
  | .not a => !a.den
  | .eq a b => a.den == b.den
  | .ite c a b => bif c.den then a.den else b.den
def BE.cmpS (op : BinOp) (a b : IE) : BE :=
  match a, b with
  | .lit x, .lit y => .lit (cmpI op x y)
  | _, _ => .cmp op a b
def BE.notS (a : BE) : BE :=
  match a with
  | .lit b => .lit !b
  | _ => .not a
def BE.eqS (a b : BE) : BE :=
  match a, b with
  | .lit x, .lit y => .lit (x == y)
  | _, _ => .eq a b
def BE.iteS (c a b : BE) : BE :=
  match c with
  | .lit true => a
  | .lit false => b
  | _ => .ite c a b
def BE.andS (a b : BE) : BE := BE.iteS a b (.lit false)
def BE.orS (a b : BE) : BE := BE.iteS a (.lit true) b
inductive NE where
  | lit (n : Nat)
  | var (n : Nat)
def NE.den : NE -> Nat
  | .lit n => n
  | .var n => n
def NE.ie : NE -> IE
  | .lit n => .lit n
  | .var n => .var n
structure Pl where
  blk : Nat
  off : Nat
  nil : Bool
abbrev nu0 : Nat -> Pl := fun _ => ⟨0, 0, false⟩
def NE.two (f : Nat -> Nat -> Nat) (a b : NE) : NE :=
  match a, b with
  | .lit x, .lit y => .lit (f x y)
  | _, _ => .var (f a.den b.den)
def IE.nat : IE -> NE
  | .lit n => .lit n.toNat
  | e => .var e.den.toNat
def leNE (a b : NE) : BE :=
  match a, b with
  | .lit x, .lit y => .lit (decide (x <= y))
  | _, _ => .var (decide (a.den <= b.den))
def inNE (i : IE) (n : NE) : BE :=
  match i, n with
  | .lit x, .lit y => .lit (decide (0 <= x /\ x < (y : Int)))
  | _, _ => .var (decide (0 <= i.den /\ i.den < (n.den : Int)))
def askB (p : BE) : Option (Option BE) :=
  match p with
  | .lit true => some none
  | .lit false => none
  | p => some (some p)
def askP (p : Option BE) (K : Prop) : Prop :=
  match p with
  | none => K
  | some p => p.den = true /\ K
inductive Col where
  | int (k : IntKind) (g : Nat -> IE)
  | bool (g : Nat -> BE)
  | val (g : Nat -> Value)
  | dark
  | str (g : Nat -> ByteArray)
def Col.den : Col -> Nat -> Value
  | .int k g, e => .int k (g e).den
  | .bool g, e => .bool (g e).den
  | .val g, e => g e
  | .dark, _ => .nilFunc
  | .str g, e => .string (g e)
def Col.holds (c : Col) (e : Nat) (v : Value) : Prop :=
  v.oneCell' = true /\ match c with
  | .dark => True
  | c => v = c.den e
inductive SV where
  | int (k : IntKind) (e : IE)
  | bool (e : BE)
  | str (s : ByteArray)
  | ptr (o off : Nat)
  | nilp
  | slice (o off : Nat) (len cap : NE)
  | nils
  | iface (t : TypeId) (v : SV)
  | nili
  | agg (vs : List SV)
  | tuple (vs : List SV)
  | func (fn : Fn) (first captured : List SV)
  | nilf
  | nilm
  | val (v : Value)
  | strE (s : ByteArray)
  | ptrE (inp : Bool) (o sz : Nat) (i : NE) (c : Nat)
  | sliceE (inp : Bool) (o sz : Nat) (st len cap : NE)
  | mapv (o : Nat)
  | sliceG (o sz st len : Nat)
  | gptr (g off : Nat)
def Pl.base (p : Pl) (inp : Bool) : Nat := bif inp then p.off else 0
mutual
def SV.den (ν : Nat -> Pl) : SV -> Value
  | .int k e => .int k e.den
  | .bool e => .bool e.den
  | .str s => .string s
  | .ptr o off => .pointer (some ⟨(ν o).blk, off, none⟩)
  | .nilp => .pointer none
  | .slice o off len cap => .slice (some ⟨(ν o).blk, off, none⟩) len.den cap.den
  | .nils => .slice none 0 0
  | .iface t v => .iface t (v.den ν)
  | .nili => .nilIface
  | .agg vs => .agg (SV.denL ν vs).toArray
  | .tuple vs => .tuple (SV.denL ν vs).toArray
  | .func fn first captured => .func fn (SV.denL ν first).toArray (SV.denL ν captured).toArray
  | .nilf => .nilFunc
  | .nilm => .map none
  | .val v => v
  | .strE s => .string s
  | .ptrE inp o sz i c => .pointer (some ⟨(ν o).blk, (ν o).base inp + (i.den * sz + c), none⟩)
  | .sliceE inp o sz st len cap => .slice (bif inp && (ν o).nil then none else some ⟨(ν o).blk, (ν o).base inp + st.den * sz, none⟩) len.den cap.den
  | .mapv o => .map (some (ν o).blk)
  | .sliceG o sz st len => .slice (some ⟨(ν o).blk, st * sz, none⟩) len ((ν o).off - st)
  | .gptr g off => .pointer (some ⟨g, off, none⟩)
def SV.denL (ν : Nat -> Pl) : List SV -> List Value
  | [] => []
  | v :: r => v.den ν :: SV.denL ν r
end
mutual
def SV.wf (p : Nat -> Prop) : SV -> Prop
  | .ptr o _ | .slice o _ _ _ | .ptrE _ o _ _ _ | .sliceE _ o _ _ _ _ | .mapv o | .sliceG o _ _ _ => p o
  | .iface _ v => v.wf p
  | .agg vs | .tuple vs => SV.wfL p vs
  | .func _ first captured => SV.wfL p first /\ SV.wfL p captured
  | _ => True
def SV.wfL (p : Nat -> Prop) : List SV -> Prop
  | [] => True
  | v :: r => v.wf p /\ SV.wfL p r
end
def SV.one : SV -> Bool
  | .agg _ | .tuple _ | .val _ => false
  | _ => true
def SV.cells : SV -> List SV
  | .agg vs => vs
  | .val v => v.cells.toList.map .val
  | v => [v]
def SV.undef : SV := .tuple []
def zEj : Value -> Option SV
  | .int k n => some (.int k (.lit n))
  | .bool b => some (.bool (.lit b))
  | .string s => some (.str s)
  | .pointer none => some .nilp
  | .slice none 0 0 => some .nils
  | .nilIface => some .nili
  | .nilFunc => some .nilf
  | .map none => some .nilm
  | _ => none
def zJY : List Value -> Option (List SV)
  | [] => some []
  | v :: r =>
    match zEj v, zJY r with
    | some x, some y => some (x :: y)
    | _, _ => none
def ofValue : Value -> Option SV
  | .agg cs => (zJY cs.toList).map .agg
  | .tuple cs => (zJY cs.toList).map .tuple
  | v => zEj v
inductive SObj where
  | cells (vs : List SV) (ty : TypeId)
  | dead
  | row (own inp : Bool) (cols : List Col) (n : NE)
  | husk
  | map (ks vs : List SV)
  | grown (sz : Nat) (vs : List SV)
  | glob (g : Nat) (vs : List SV)
def SObj.alive : SObj -> Bool
  | .dead => false
  | _ => true
structure St where
  tmps : List SV
  hp : List SObj
def zS {α : Type} : List α -> Nat -> α -> List α
  | [], _, _ => []
  | _ :: r, 0, v => v :: r
  | x :: r, n + 1, v => x :: zS r n v
def St.put (σ : St) (d : Option Nat) (v : SV) : St :=
  match d with
  | some d => { σ with tmps := zS σ.tmps d v }
  | none => σ
def fNat (n : Nat) (K : Nat -> Prop) : Prop :=
  match n with
  | 0 => K 0
  | m + 1 => K (m + 1)
def fInt (n : Int) (K : Int -> Prop) : Prop :=
  match n with
  | .ofNat m => fNat m fun m => K (.ofNat m)
  | .negSucc m => fNat m fun m => K (.negSucc m)
def fIE (e : IE) (K : IE -> Prop) : Prop :=
  match e with
  | .lit n => fInt n fun n => K (.lit n)
  | .var n => K (.var n)
  | .add k a b => K (.add k a b)
  | .sub k a b => K (.sub k a b)
  | .mul k a b => K (.mul k a b)
  | .quo k a b => K (.quo k a b)
  | .rem a b => K (.rem a b)
  | .bits op k a b => K (.bits op k a b)
  | .shl k a b => K (.shl k a b)
  | .shr k a b => K (.shr k a b)
  | .conv k a => K (.conv k a)
  | .mn a b => K (.mn a b)
  | .mx a b => K (.mx a b)
def fBE (e : BE) (K : BE -> Prop) : Prop :=
  match e with
  | .lit b => K (.lit b)
  | .var b => K (.var b)
  | .cmp op a b => K (.cmp op a b)
  | .not a => K (.not a)
  | .eq a b => K (.eq a b)
  | .ite c a b => K (.ite c a b)
def fNE (e : NE) (K : NE -> Prop) : Prop :=
  match e with
  | .lit n => fNat n fun n => K (.lit n)
  | .var n => K (.var n)
def zCt {α : Type} (l : List α) : (List α -> Prop) -> Prop :=
  List.rec (motive := fun _ => (List α -> Prop) -> Prop) (fun K => K []) (fun v _ ih K => ih fun r => K (v :: r)) l
def zOh (l : List UInt8) : (List UInt8 -> Prop) -> Prop :=
  List.rec (motive := fun _ => (List UInt8 -> Prop) -> Prop) (fun K => K []) (fun v _ ih K => fNat v.toNat fun n => ih fun r => K (UInt8.ofNat n :: r)) l
def fStr (s : ByteArray) (K : ByteArray -> Prop) : Prop := zOh s.data.toList fun l => K ⟨l.toArray⟩
mutual
def fSV : SV -> (SV -> Prop) -> Prop
  | .int k e, K => fIE e fun e => K (.int k e)
  | .bool e, K => fBE e fun e => K (.bool e)
  | .str s, K => fStr s fun s => K (.str s)
  | .ptr o off, K => fNat o fun o => fNat off fun off => K (.ptr o off)
  | .nilp, K => K .nilp
  | .slice o off len cap, K => fNat o fun o => fNat off fun off => fNE len fun len => fNE cap fun cap => K (.slice o off len cap)
  | .nils, K => K .nils
  | .iface t v, K => fSV v fun v => K (.iface t v)
  | .nili, K => K .nili
  | .agg vs, K => fSVs vs fun vs => K (.agg vs)
  | .tuple vs, K => fSVs vs fun vs => K (.tuple vs)
  | .func fn a b, K => fSVs a fun a => fSVs b fun b => K (.func fn a b)
  | .nilf, K => K .nilf
  | .nilm, K => K .nilm
  | .val v, K => K (.val v)
  | .strE s, K => K (.strE s)
  | .ptrE inp o sz i c, K => fNat o fun o => fNE i fun i => K (.ptrE inp o sz i c)
  | .sliceE inp o sz st len cap, K => fNat o fun o => fNE st fun st => fNE len fun len => fNE cap fun cap => K (.sliceE inp o sz st len cap)
  | .mapv o, K => fNat o fun o => K (.mapv o)
  | .sliceG o sz st len, K => fNat o fun o => fNat st fun st => fNat len fun len => K (.sliceG o sz st len)
  | .gptr g off, K => fNat off fun off => K (.gptr g off)
def fSVs : List SV -> (List SV -> Prop) -> Prop
  | [], K => K []
  | v :: r, K => fSV v fun v => fSVs r fun r => K (v :: r)
end
noncomputable def setF {α : Type} (l : List α) (v : α) : Nat -> (List α -> Prop) -> Prop :=
  List.rec (motive := fun _ => Nat -> (List α -> Prop) -> Prop) (fun _ K => K []) (fun x r ih n K => Nat.rec (motive := fun _ => Prop) (K (v :: r)) (fun m _ => ih m fun r => K (x :: r)) n) l
def fObj (x : SObj) (K : SObj -> Prop) : Prop :=
  match x with
  | .cells vs ty => fSVs vs fun vs => K (.cells vs ty)
  | .dead => K .dead
  | .row own inp cols n => fNE n fun n => K (.row own inp cols n)
  | .husk => K .husk
  | .map ks vs => fSVs ks fun ks => fSVs vs fun vs => K (.map ks vs)
  | .grown sz vs => fSVs vs fun vs => K (.grown sz vs)
  | .glob g vs => K (.glob g vs)
def fHp : List SObj -> (List SObj -> Prop) -> Prop
  | [], K => K []
  | x :: r, K => fObj x fun x => fHp r fun r => K (x :: r)
def putK (σ : St) (d : Option Nat) (v : SV) (K : St -> Prop) : Prop :=
  match d with
  | some d => fSV v fun v => setF σ.tmps v d fun t => K { tmps := t, hp := σ.hp }
  | none => K σ
def putH (σ : St) (hp : List SObj) (d : Option Nat) (v : SV) (K : St -> Prop) : Prop := zCt hp fun hp => putK { σ with hp := hp } d v K
def getR {α : Type} (l : List α) : Nat -> Option α :=
  List.rec (motive := fun _ => Nat -> Option α) (fun _ => none) (fun x _ ih n => Nat.rec (motive := fun _ => Option α) (some x) (fun m _ => ih m) n) l
theorem zDv {α : Type} : ∀ (l : List α) (n : Nat), getR l n = l[n]?
  | [], n => by cases n <;> rfl
  | x :: r, 0 => rfl
  | x :: r, n + 1 => by
    have : getR (x :: r) (n + 1) = getR r n := rfl
    rw [this, zDv r n]; rfl
def St.eval (σ : St) : Operand -> Option SV
  | .tmp t => getR σ.tmps t
  | .const v => ofValue v
  | .global g => some (.gptr g 0)
  | .func f => some (.func (.func f) [] [])
def zBa (σ : St) : List Operand -> Option (List SV)
  | [] => some []
  | x :: r =>
    match σ.eval x, zBa σ r with
    | some v, some l => some (v :: l)
    | _, _ => none
def zD5 (P : Program) (t : TypeId) : Bool :=
  match P.underlying t with
  | some (.struct _) | some (.array _ _) => true
  | _ => false
def zLp (P : Program) (hp : List SObj) (t : TypeId) (o off : Nat) : Option SV :=
  match hp[o]?, P.underlying t, P.info? t with
  | some (.cells vs _), some _, some i =>
    if zD5 P t then (if off + i.size <= vs.length then some (.agg ((vs.drop off).take i.size)) else none)
    else vs[off]?
  | _, _, _ => none
def zo : List SV -> Nat -> List SV -> List SV
  | vs, _, [] => vs
  | vs, off, c :: r => zo (zS vs off c) (off + 1) r
def zNc (P : Program) (hp : List SObj) (t : TypeId) (o off : Nat) (v : SV) : Option SObj :=
  match hp[o]?, P.info? t with
  | some (.cells vs ty), some i =>
    if v.cells.length = i.size /\ off + i.size <= vs.length /\ v.cells.all SV.one = true then some (.cells (zo vs off v.cells) ty) else none
  | _, _ => none
def zBA (P : Program) (t : TypeId) : Option SV :=
  match P.info? t with
  | some i => match i.zero with
    | some v => ofValue v
    | none => none
  | none => none
def zKv (place : Nat -> Option (Nat × Nat)) (cells : List SV) : List (Nat × SV) -> Option (List SV)
  | [] => some cells
  | (i, v) :: rest =>
    match place i with
    | none => none
    | some (off, size) =>
      if v.cells.length = size /\ off + v.cells.length <= cells.length then zKv place (zo cells off v.cells) rest else none
def zH8 (P : Program) : List Field -> Option (List (Nat × Nat))
  | [] => some []
  | f :: r =>
    match P.info? f.type, zH8 P r with
    | some i, some l => some ((f.offset, i.size) :: l)
    | _, _ => none
def zAi (σ : St) : List (Nat × Operand) -> Option (List (Nat × SV))
  | [] => some []
  | (i, x) :: r =>
    match σ.eval x, zAi σ r with
    | some v, some l => some ((i, v) :: l)
    | _, _ => none
def zAJ : Option BE -> Prop
  | none => True
  | some p => p.den = true
def zP6 (op : BinOp) (k : IntKind) (a b : IE) : Option (Option BE × SV) :=
  match op with
  | .add => some (none, .int k (IE.two (.add k) a b))
  | .sub => some (none, .int k (IE.two (.sub k) a b))
  | .mul => some (none, .int k (IE.two (.mul k) a b))
  | .quo => match b with
    | .lit n => if n = 0 then none else some (none, .int k (IE.two (.quo k) a b))
    | _ => some (some (.cmp .neq b (.lit 0)), .int k (IE.two (.quo k) a b))
  | .rem => match b with
    | .lit n => if n = 0 then none else some (none, .int k (IE.two .rem a b))
    | _ => some (some (.cmp .neq b (.lit 0)), .int k (IE.two .rem a b))
  | .and | .or | .xor | .andNot => some (none, .int k (IE.two (.bits op k) a b))
  | .eql | .neq | .lss | .leq | .gtr | .geq => some (none, .bool (BE.cmpS op a b))
  | _ => none
def zMW (op : BinOp) (k : IntKind) (a b : IE) : Option (Option BE × SV) :=
  let r := match op with
    | .shl => IE.two (.shl k) a b
    | _ => IE.two (.shr k) a b
  match b with
  | .lit n => if n < 0 then none else some (none, .int k r)
  | _ => some (some (.cmp .geq b (.lit 0)), .int k r)
def zHm (P : Program) (t : TypeId) (cs : List SV) (off : Nat) : Option SV :=
  match P.underlying t, P.info? t with
  | some _, some i => if zD5 P t then some (.agg ((cs.drop off).take i.size)) else cs[off]?
  | _, _ => none
def zLE (P : Program) (g : TypeId -> SV -> SV -> Option BE) (xs ys : List SV) : List Field -> Option BE
  | [] => some (.lit true)
  | f :: fs =>
    if f.name = "_" then none
    else
      match zHm P f.type xs f.offset, zHm P f.type ys f.offset with
      | some a, some b =>
        match g f.type a b, zLE P g xs ys fs with
        | some e, some r => some (BE.andS e r)
        | _, _ => none
      | _, _ => none
def sxEq (P : Program) : Nat -> TypeId -> SV -> SV -> Option BE
  | 0, _, _, _ => none
  | d + 1, t, x, y =>
    match P.underlying t, x, y with
    | some (.int _), .int k a, .int k' b => if k = k' then some (BE.cmpS .eql a b) else none
    | some .bool, .bool a, .bool b => some (BE.eqS a b)
    | some (.struct fs), .agg xs, .agg ys => if P.stoodInHeld t then none else zLE P (sxEq P d) xs ys fs.toList
    | _, _, _ => none
def zP9 (P : Program) (op : BinOp) (t : TypeId) (x y : SV) : Option (Option BE × SV) :=
  match x, y with
  | .int k a, .int k' b =>
    match op with
    | .shl | .shr => zMW op k a b
    | _ => if k = k' then zP6 op k a b else none
  | .bool a, .bool b =>
    match P.underlying t, op with
    | some .bool, .eql => some (none, .bool (BE.eqS a b))
    | some .bool, .neq => some (none, .bool (BE.notS (BE.eqS a b)))
    | _, _ => none
  | .agg xs, .agg ys =>
    if P.eqGuardType P.depth t then none
    else
      match op, sxEq P 6 t (.agg xs) (.agg ys) with
      | .eql, some e => some (none, .bool e)
      | .neq, some e => some (none, .bool (BE.notS e))
      | _, _ => none
  | _, _ => none
def sxUn (op : UnOp) (x : SV) : Option SV :=
  match op, x with
  | .neg, .int k e => some (.int k (IE.two (.sub k) (.lit 0) e))
  | .xor, .int k e => some (.int k (IE.two (.bits .xor k) (.lit (if k.signed then -1 else k.max)) e))
  | .not, .bool e => some (.bool (BE.notS e))
  | _, _ => none
def zHZ (P : Program) (t : TypeId) : Bool :=
  match P.underlying t with
  | some (.interface _) => false
  | some _ => true
  | none => false
def zKC (P : Program) (x : SV) (asserted : TypeId) (ok : Bool) : Option SV :=
  if zHZ P asserted then
    match x with
    | .iface t v =>
      if t = asserted then some (if ok then .tuple [v, .bool (.lit true)] else v)
      else if ok then (zBA P asserted).map fun z => .tuple [z, .bool (.lit false)] else none
    | .nili => if ok then (zBA P asserted).map fun z => .tuple [z, .bool (.lit false)] else none
    | _ => none
  else none
def zMY (P : Program) (s : TypeId) (x : SV) (f : Nat) : Option SV :=
  match P.underlying s, x with
  | some (.struct fs), .ptr o off =>
    match fs[f]? with
    | some fd => match P.info? fd.type with
      | some i => if i.size = 0 then none else some (.ptr o (off + fd.offset))
      | none => none
    | none => none
  | _, _ => none
def zKA (P : Program) (s : TypeId) (x : SV) (f : Nat) : Option SV :=
  match P.underlying s, x with
  | some (.struct fs), .agg cs =>
    match fs[f]? with
    | some fd => zHm P fd.type cs fd.offset
    | none => none
  | _, _ => none
def zFB (P : Program) (t : TypeId) (x ix : SV) : Option SV :=
  match P.underlying t, x, ix with
  | some (.slice e), .slice o off (.lit len) _, .int _ (.lit i) =>
    match P.info? e with
    | some inf => if 0 <= i /\ i < len then some (.ptr o (off + i.toNat * inf.size)) else none
    | none => none
  | some (.array len e), .ptr o off, .int _ (.lit i) =>
    match P.info? e with
    | some inf => if 0 <= i /\ i < len then some (.ptr o (off + i.toNat * inf.size)) else none
    | none => none
  | _, _, _ => none
def zU4 (P : Program) (t : TypeId) (x : SV) : Option SV :=
  match P.underlying t, x with
  | some (.slice _), .slice _ _ len _ => some (.int .i64 len.ie)
  | some (.slice _), .nils => some (.int .i64 (.lit 0))
  | some (.array n _), _ => some (.int .i64 (.lit n))
  | _, _ => none
def zBM (P : Program) (σ : St) (op : Op) : Option (Option BE × SV) :=
  match op with
  | .move x | .assign x => (σ.eval x).map fun v => (none, v)
  | .pick c a b =>
    match σ.eval c, σ.eval a, σ.eval b with
    | some (.bool (.lit true)), some v, some _ => some (none, v)
    | some (.bool (.lit false)), some _, some v => some (none, v)
    | some (.bool e), some (.bool x), some (.bool y) => some (none, .bool (.ite e x y))
    | _, _, _ => none
  | .load t p =>
    match σ.eval p with
    | some (.ptr o off) => (zLp P σ.hp t o off).map fun v => (none, v)
    | _ => none
  | .nilCheck x =>
    match σ.eval x with
    | some (.ptr o off) => some (none, .ptr o off)
    | some (.func (.func f) fi ca) => some (none, .func (.func f) fi ca)
    | some (.iface t v) => some (none, .iface t v)
    | _ => none
  | .binOp op t x y _ =>
    match σ.eval x, σ.eval y with
    | some a, some b => zP9 P op t a b
    | _, _ => none
  | .unOp op _ x =>
    match σ.eval x with
    | some a => (sxUn op a).map fun v => (none, v)
    | _ => none
  | .convert src dst x =>
    match P.underlying src, P.underlying dst, σ.eval x with
    | some _, some (.int k), some (.int _ e) => some (none, .int k (IE.one (.conv k) e))
    | _, _, _ => none
  | .makeInterface t x =>
    match σ.eval x with
    | some v => if zHZ P t then some (none, .iface t v) else none
    | none => none
  | .makeFunc fn first captured =>
    match zBa σ first.toList, zBa σ captured.toList with
    | some a, some b => some (none, .func fn a b)
    | _, _ => none
  | .fieldAddr s x f =>
    match σ.eval x with
    | some v => (zMY P s v f).map fun v => (none, v)
    | none => none
  | .field s x f =>
    match σ.eval x with
    | some v => (zKA P s v f).map fun v => (none, v)
    | none => none
  | .indexAddr t x i =>
    match σ.eval x, σ.eval i with
    | some a, some b => (zFB P t a b).map fun v => (none, v)
    | _, _ => none
  | .typeAssert x _ asserted ok =>
    match σ.eval x with
    | some v => (zKC P v asserted ok).map fun v => (none, v)
    | none => none
  | .extract x i =>
    match σ.eval x with
    | some (.tuple vs) => (vs[i]?).map fun v => (none, v)
    | _ => none
  | .build t parts =>
    match P.underlying t, zBA P t, zAi σ parts.toList with
    | some (.struct fs), some z, some l =>
      match zH8 P fs.toList with
      | some q => (zKv (fun i => q[i]?) z.cells l).map fun cs => (none, .agg cs)
      | none => none
    | some (.array _ e), some z, some l =>
      match P.info? e with
      | some inf => (zKv (fun j => some (j * inf.size, inf.size)) z.cells l).map fun cs => (none, .agg cs)
      | none => none
    | _, _, _ => none
  | .call c =>
    match c.callee, c.args.toList with
    | .builtin .len, [x] =>
      match c.argTypes[0]?, σ.eval x with
      | some t, some v => (zU4 P t v).map fun v => (none, v)
      | _, _ => none
    | .builtin .min, [x, y] =>
      match σ.eval x, σ.eval y with
      | some (.int k a), some (.int k' b) => if k = k' then some (none, .int k (IE.two .mn a b)) else none
      | _, _ => none
    | .builtin .max, [x, y] =>
      match σ.eval x, σ.eval y with
      | some (.int k a), some (.int k' b) => if k = k' then some (none, .int k (IE.two .mx a b)) else none
      | _, _ => none
    | _, _ => none
  | _ => none
def zOm (sz j : Nat) (vs : List SV) : Col :=
  match vs[j]? with
  | some (.int k _) =>
    if (List.range (vs.length / sz)).all (fun e => match vs[e * sz + j]? with | some (.int k' _) => decide (k' = k) | _ => false) then .int k fun e => match vs[e * sz + j]? with | some (.int _ a) => a | _ => .lit 0
    else .dark
  | some (.bool _) =>
    if (List.range (vs.length / sz)).all (fun e => match vs[e * sz + j]? with | some (.bool _) => true | _ => false) then .bool fun e => match vs[e * sz + j]? with | some (.bool a) => a | _ => .lit false
    else .dark
  | some (.str _) =>
    if (List.range (vs.length / sz)).all (fun e => match vs[e * sz + j]? with | some (.str _) => true | _ => false) then .str fun e => match vs[e * sz + j]? with | some (.str a) => a | _ => .empty
    else .dark
  | _ => .dark
def zAB (sz : Nat) : SObj -> Option (Bool × List Col × NE)
  | .row _ inp cols n => if cols.length = sz then some (inp, cols, n) else none
  | .cells vs _ => if sz = 0 ∨ (vs.all SV.one = false) then none else some (false, (List.range sz).map (fun j => zOm sz j vs), .lit (vs.length / sz))
  | _ => none
def Col.get (c : Col) (i : NE) : Option SV :=
  match c, i with
  | .int k g, .lit n => some (.int k (g n))
  | .int k g, .var n => some (.int k (.var (g n).den))
  | .bool g, .lit n => some (.bool (g n))
  | .bool g, .var n => some (.bool (.var (g n).den))
  | .val g, i => some (.val (g i.den))
  | .dark, _ => none
  | .str g, .lit n => some (.str (g n))
  | .str g, .var n => some (.strE (g n))
def zIV (i : NE) : List Col -> Option (List SV)
  | [] => some []
  | c :: r =>
    match c.get i, zIV i r with
    | some v, some l => some (v :: l)
    | _, _ => none
def zRG (P : Program) (hp : List SObj) (t : TypeId) (inp : Bool) (o sz : Nat) (i : NE) (c : Nat) : Option (Option BE × SV) :=
  match hp[o]?, P.underlying t, P.info? t with
  | some x, some _, some inf =>
    match zAB sz x with
    | some (inp', cols, n) =>
      if inp' = inp then
        match askB (leNE (NE.two (· + ·) i (.lit 1)) n) with
        | some p =>
          if zD5 P t then (if c + inf.size <= cols.length then (zIV i ((cols.drop c).take inf.size)).map fun vs => (p, .agg vs) else none)
          else match cols[c]? with
            | some col => (col.get i).map fun v => (p, v)
            | none => none
        | none => none
      else none
    | none => none
  | _, _, _ => none
def zFA : Option BE -> Option BE -> Option BE
  | none, p => p
  | p, none => p
  | some a, some b => some (.ite a b (.lit false))
def zNA (hp : List SObj) (inp : Bool) (o : Nat) (st len cap : NE) : Option (Option BE) :=
  match inp with
  | false => some none
  | true =>
    match hp[o]? with
    | some (.row _ true _ n) => some (some (.var (decide (len.den <= cap.den /\ st.den + cap.den <= n.den))))
    | _ => none
def zGh (p q : Option (Option BE)) : Option (Option BE) :=
  match p, q with
  | some p, some q => some (zFA p q)
  | _, _ => none
def zJ8 (P : Program) (hp : List SObj) (t : TypeId) (x ix : SV) : Option (Option BE × SV) :=
  match P.underlying t, x, ix with
  | some (.slice e), .sliceE inp o sz st len cap, .int _ i =>
    match P.info? e with
    | some inf => if inf.size = sz then (zGh (zNA hp inp o st len cap) (askB (inNE i len))).map fun p => (p, .ptrE inp o sz (NE.two (· + ·) st i.nat) 0) else none
    | none => none
  | some (.slice e), .slice o off len _, .int _ i =>
    match P.info? e with
    | some inf => if 0 < inf.size /\ off % inf.size = 0 then (askB (inNE i len)).map fun p => (p, .ptrE false o inf.size (NE.two (· + ·) (.lit (off / inf.size)) i.nat) 0) else none
    | none => none
  | _, _, _ => none
def zKB (P : Program) (s : TypeId) (x : SV) (f : Nat) : Option SV :=
  match P.underlying s, x with
  | some (.struct fs), .ptrE inp o sz i c =>
    match fs[f]? with
    | some fd => match P.info? fd.type with
      | some inf => if inf.size = 0 then none else some (.ptrE inp o sz i (c + fd.offset))
      | none => none
    | none => none
  | _, _ => none
def zL3 (st cap l : NE) : NE :=
  match st, cap, l with
  | .lit a, .lit b, .lit c => .lit (bif Nat.beq b c then a else a + c)
  | _, _, _ => .var (bif Nat.beq cap.den l.den then st.den else st.den + l.den)
def zFb (P : Program) (hp : List SObj) (t : TypeId) (x : SV) (lo hi : Option SV) : Option (Option BE × SV) :=
  match P.underlying t, x with
  | some (.slice e), .sliceE inp o sz st len cap =>
    match P.info? e with
    | some inf =>
      if inf.size = sz then
        match lo, hi with
        | none, none => some (none, .sliceE inp o sz st len cap)
        | none, some (.int _ h) => (zGh (zNA hp inp o st len cap) (askB (inNE h (NE.two (· + ·) cap (.lit 1))))).map fun p => (p, .sliceE inp o sz st h.nat cap)
        | some (.int _ l), none => (zGh (zNA hp inp o st len cap) (askB (inNE l (NE.two (· + ·) len (.lit 1))))).map fun p => (p, .sliceE inp o sz (zL3 st cap l.nat) (NE.two (· - ·) len l.nat) (NE.two (· - ·) cap l.nat))
        | _, _ => none
      else none
    | none => none
  | _, _ => none
def zGp (g : Nat -> IE) (st len : Nat) : ByteArray := ⟨((List.range len).map fun i => UInt8.ofNat (g (st + i)).den.toNat).toArray⟩
def zHq (hp : List SObj) (sz : Nat) : SV -> Option (Bool × Nat × List Col × NE × NE × NE × NE)
  | .sliceE inp o sz' st len cap =>
    if sz' = sz then
      match hp[o]? with
      | some x => match zAB sz x with
        | some (inp', cols, n) => if inp' = inp then some (inp, o, cols, n, st, len, cap) else none
        | none => none
      | none => none
    else none
  | .slice o off len cap =>
    if 0 < sz /\ off % sz = 0 then
      match hp[o]? with
      | some x => match zAB sz x with
        | some (false, cols, n) => some (false, o, cols, n, .lit (off / sz), len, cap)
        | _ => none
      | none => none
    else none
  | _ => none
def zMV (hp : List SObj) (x : SV) : Option (Option BE × SV) :=
  match x with
  | .nils => some (none, .str .empty)
  | x =>
    match zHq hp 1 x with
    | some (_, _, [.int .u8 g], n, st, len, _) => (askB (leNE (NE.two (· + ·) st len) n)).map fun p => (p, .strE (zGp g st.den len.den))
    | _ => none
def zFf : SV -> Option ByteArray
  | .str s | .strE s => some s
  | _ => none
def zNb (op : BinOp) (x y : SV) : Option SV :=
  match zFf x, zFf y, op with
  | some a, some b, .eql => some (.bool (.var (a.toList == b.toList)))
  | some a, some b, .neq => some (.bool (.var (!(a.toList == b.toList))))
  | _, _, _ => none
def zDS (P : Program) (σ : St) (op : Op) : Option (Option BE × SV) :=
  match op with
  | .load t p =>
    match σ.eval p with
    | some (.ptrE inp o sz i c) => zRG P σ.hp t inp o sz i c
    | _ => none
  | .nilCheck x =>
    match σ.eval x with
    | some (.ptrE inp o sz i c) => some (none, .ptrE inp o sz i c)
    | _ => none
  | .indexAddr t x i =>
    match σ.eval x, σ.eval i with
    | some a, some b => zJ8 P σ.hp t a b
    | _, _ => none
  | .fieldAddr s x f =>
    match σ.eval x with
    | some v => (zKB P s v f).map fun v => (none, v)
    | none => none
  | .slice t x lo hi none =>
    match σ.eval x, lo, hi with
    | some v, none, none => zFb P σ.hp t v none none
    | some v, some l, none => match σ.eval l with
      | some l => zFb P σ.hp t v (some l) none
      | none => none
    | some v, none, some h => match σ.eval h with
      | some h => zFb P σ.hp t v none (some h)
      | none => none
    | _, _, _ => none
  | .convert src dst x =>
    match P.underlying src, P.underlying dst, σ.eval x with
    | some (.slice e), some .string, some v => match P.underlying e with
      | some (.int .u8) => zMV σ.hp v
      | _ => none
    | _, _, _ => none
  | .binOp op t x y _ =>
    match P.underlying t, σ.eval x, σ.eval y with
    | some .string, some a, some b => (zNb op a b).map fun v => (none, v)
    | _, _, _ => none
  | .call c =>
    match c.callee, c.args.toList with
    | .builtin .len, [x] =>
      match c.argTypes[0]?, σ.eval x with
      | some t, some (.sliceE _ _ _ _ len _) => match P.underlying t with
        | some (.slice _) => some (none, .int .i64 len.ie)
        | _ => none
      | _, _ => none
    | .builtin .cap, [x] =>
      match c.argTypes[0]?, σ.eval x with
      | some t, some (.sliceE _ _ _ _ _ cap) => match P.underlying t with
        | some (.slice _) => some (none, .int .i64 cap.ie)
        | _ => none
      | _, _ => none
    | _, _ => none
  | _ => none
def zId (σ : St) : Option Operand -> Option (Option SV)
  | none => some none
  | some x => (σ.eval x).map some
def zI9 (x : Option SV) (top dflt : NE) : Option (Option BE × NE) :=
  match x with
  | none => some (none, dflt)
  | some (.int _ e) => (askB (inNE e (NE.two (· + ·) top (.lit 1)))).map fun p => (p, e.nat)
  | _ => none
def asSl (sz : Nat) : SV -> Option (Bool × Nat × NE × NE × NE)
  | .sliceE inp o sz' st len cap => if sz' = sz then some (inp, o, st, len, cap) else none
  | .slice o off len cap => if 0 < sz /\ off % sz = 0 then some (false, o, .lit (off / sz), len, cap) else none
  | _ => none
def zLC (plain inp : Bool) (o sz : Nat) (st len cap : NE) : SV :=
  match plain, st, len, cap with
  | true, .lit a, .lit b, .lit c => .slice o (a * sz) (.lit b) (.lit c)
  | _, st, len, cap => .sliceE inp o sz st len cap
def zKd : SV -> Bool
  | .slice _ _ _ _ => true
  | _ => false
def zJ5 (P : Program) (hp : List SObj) (t : TypeId) (x : SV) (lo hi mx : Option SV) : Option (Option BE × SV) :=
  match P.underlying t with
  | some (.slice e) =>
    match P.info? e with
    | some inf =>
      match asSl inf.size x with
      | some (inp, o, st, len, cap) =>
        match mx, hi with
        | some _, none => none
        | mx, hi =>
          match zI9 mx cap cap with
          | some (pm, m) => match zI9 hi m len with
            | some (ph, h) => match zI9 lo h (.lit 0) with
              | some (pl, l) => match zNA hp inp o st len cap with
                | some g => some (zFA (zFA g pm) (zFA ph pl), zLC (zKd x) inp o inf.size (zL3 st m l) (NE.two (· - ·) h l) (NE.two (· - ·) m l))
                | none => none
              | none => none
            | none => none
          | none => none
      | none => none
    | none => none
  | _ => none
def zDU : SV -> Bool
  | .str _ => true
  | _ => false
def zMU (lit : Bool) (s : ByteArray) : SV := if lit then .str s else .strE s
def zYZ : NE -> Bool
  | .lit _ => true
  | _ => false
def zJ4 (x : SV) (lo hi : Option SV) : Option (Option BE × SV) :=
  match zFf x with
  | some s =>
    let n : NE := if zDU x then .lit s.size else .var s.size
    match zI9 hi n n with
    | some (ph, h) => match zI9 lo h (.lit 0) with
      | some (pl, l) => some (zFA ph pl, zMU (zDU x && zYZ h && zYZ l) (s.extract l.den h.den))
      | none => none
    | none => none
  | none => none
def zDc (s : ByteArray) (i : Nat) : Int := ((s.data[i]?).getD 0).toNat
def zJ7 (x ix : SV) : Option (Option BE × SV) :=
  match zFf x, ix with
  | some s, .int _ i =>
    (askB (inNE i (if zDU x then .lit s.size else .var s.size))).map fun p => (p, .int .u8 (match zDU x, i with | true, .lit _ => .lit (zDc s i.den.toNat) | _, _ => .var (zDc s i.den.toNat)))
  | _, _ => none
def zP8 (op : BinOp) (x y : SV) : Option (Option BE × SV) :=
  match zFf x, zFf y with
  | some a, some b =>
    match op with
    | .add => if zDU x && zDU y then (if a.size + b.size <= 1000000 then some (none, .str (a ++ b)) else none) else some (some (.var (decide (a.size + b.size <= 9223372036854775807))), .strE (a ++ b))
    | .lss => some (none, .bool (.var (Op.bytesLess a.toList b.toList)))
    | .leq => some (none, .bool (.var (Op.bytesLess a.toList b.toList || a.toList == b.toList)))
    | .gtr => some (none, .bool (.var (!(Op.bytesLess a.toList b.toList || a.toList == b.toList))))
    | .geq => some (none, .bool (.var (!Op.bytesLess a.toList b.toList)))
    | _ => none
  | _, _ => none
def zEQ (k : IntKind) (a : Int) : List SV -> Nat -> Option (Option Nat)
  | [], _ => some none
  | .int k' (.lit b) :: r, i => if k = k' then (if a = b then some (some i) else zEQ k a r (i + 1)) else none
  | _, _ => none
def zDE (ok : Bool) (v : SV) (b : Bool) : SV := if ok then .tuple [v, .bool (.lit b)] else v
def zOB (P : Program) (σ : St) (t : TypeId) (x i : Operand) (ok : Bool) : Option SV :=
  match P.underlying t, σ.eval x, σ.eval i with
  | some (.map kt et), some xv, some (.int k (.lit a)) =>
    match P.underlying kt, zBA P et with
    | some (.int _), some z =>
      match xv with
      | .nilm => some (zDE ok z false)
      | .mapv o =>
        match σ.hp[o]? with
        | some (.map ks vs) =>
          match zEQ k a ks 0 with
          | some (some j) => (vs[j]?).map fun v => zDE ok v true
          | some none => some (zDE ok z false)
          | none => none
        | _ => none
      | _ => none
    | _, _ => none
  | _, _, _ => none
def zN4 (k : IntKind) (e : IE) : List SV -> Option BE
  | [] => some (.lit true)
  | .int k' (.lit b) :: r => if k = k' then (zN4 k e r).map fun p => .ite (.cmp .eql e (.lit b)) (.lit false) p else none
  | _ => none
def zKl (P : Program) (σ : St) (t : TypeId) (x i : Operand) (ok : Bool) : Option (Option BE × SV) :=
  match P.underlying t, σ.eval x, σ.eval i with
  | some (.map kt et), some (.mapv o), some (.int k e) =>
    match P.underlying kt, zBA P et, σ.hp[o]? with
    | some (.int _), some z, some (.map ks _) => (zN4 k e ks).map fun p => (some p, zDE ok z false)
    | _, _, _ => none
  | _, _, _ => none
def zEg : List SV -> List SV -> Bool
  | [], [] => true
  | .int k (.lit a) :: r, .int k' (.lit b) :: r' => decide (k = k') && (decide (a = b) && zEg r r')
  | .bool (.lit a) :: r, .bool (.lit b) :: r' => (a == b) && zEg r r'
  | _, _ => false
def zKn (P : Program) (t : TypeId) : Bool :=
  match P.underlying t with
  | some (.int _) | some .bool | some .string => true
  | _ => false
def zIP (P : Program) (kt : TypeId) (key : SV) : Bool :=
  match P.underlying kt, key with
  | some (.struct fs), .agg cs => fs.toList.all fun f => zKn P f.type && (zHm P f.type cs f.offset).isSome
  | _, _ => false
def zKI : SV -> SV -> Bool
  | .agg l, .agg l' => zEg l l'
  | _, _ => false
def zDx (P : Program) (kt : TypeId) (key : SV) : List SV -> Nat -> Option (Option Nat)
  | [], _ => some none
  | x :: r, i =>
    match sxEq P 6 kt key x with
    | some (.lit true) => if zKI key x then some (some i) else none
    | some (.lit false) => zDx P kt key r (i + 1)
    | _ => none
def mapS (P : Program) (σ : St) (t : TypeId) (x i : Operand) (ok : Bool) : Option (Option BE × SV) :=
  match P.underlying t, σ.eval x, σ.eval i with
  | some (.map kt et), some (.mapv o), some key =>
    match zBA P et, σ.hp[o]?, zIP P kt key with
    | some z, some (.map ks vs), true =>
      match zDx P kt key ks 0 with
      | some (some j) => (vs[j]?).map fun v => (none, zDE ok v true)
      | some none => some (none, zDE ok z false)
      | none => none
    | _, _, _ => none
  | _, _, _ => none
def zE1 (P : Program) (σ : St) (op : Op) : Option (Option BE × SV) :=
  match op with
  | .slice t x lo hi mx =>
    match σ.eval x, zId σ lo, zId σ hi, zId σ mx with
    | some v, some l, some h, some m =>
      match P.underlying t, m with
      | some .string, none => zJ4 v l h
      | _, _ => zJ5 P σ.hp t v l h m
    | _, _, _, _ => none
  | .index t x i =>
    match P.underlying t, σ.eval x, σ.eval i with
    | some .string, some v, some w => zJ7 v w
    | _, _, _ => none
  | .binOp op t x y _ =>
    match P.underlying t, σ.eval x, σ.eval y with
    | some .string, some a, some b => zP8 op a b
    | _, _, _ => none
  | .lookup t x i ok =>
    match zOB P σ t x i ok with
    | some v => some (none, v)
    | none => match zKl P σ t x i ok with
      | some r => some r
      | none => mapS P σ t x i ok
  | .call c =>
    match c.callee, c.args.toList with
    | .builtin .len, [x] =>
      match c.argTypes[0]?, σ.eval x with
      | some t, some v => match P.underlying t, zFf v with
        | some .string, some s => some (none, .int .i64 (if zDU v then .lit s.size else .var s.size))
        | _, _ => none
      | _, _ => none
    | _, _ => none
  | _ => none
def SV.kind : SV -> Option IntKind
  | .int k _ => some k
  | _ => none
def zBk (k : Option IntKind) : List SV -> Bool
  | [] => true
  | v :: r => decide (v.kind = k) && zBk k r
def zDK (sz : Nat) (z : SV) (xs : List SV) : Bool :=
  !(Nat.beq sz 1) || (match z.cells with | [c] => c.one && zBk c.kind xs | _ => false)
def zDX (sz : Nat) (vs xs : List SV) : Bool :=
  !(Nat.beq sz 1) || (match vs with | u :: _ => u.one && zBk u.kind xs | [] => false)
def zBI (hp : List SObj) (o : Nat) : Option (List SV) :=
  match hp[o]? with
  | some (.cells vs _) => some vs
  | some (.grown _ vs) => some vs
  | _ => none
def zGs (vs : List SV) (off k : Nat) : Option (List SV) := if off + k <= vs.length then some ((vs.drop off).take k) else none
def zI6 (hp : List SObj) (sz : Nat) : SV -> Option (Nat × List SV)
  | .nils => some (0, [])
  | .sliceG o sz' st len => if sz' = sz then (match zBI hp o with | some vs => (zGs vs (st * sz) (len * sz)).map fun l => (len, l) | none => none) else none
  | .slice o off (.lit len) _ => match zBI hp o with | some vs => (zGs vs off (len * sz)).map fun l => (len, l) | none => none
  | .sliceE _ _ _ _ (.lit 0) _ => some (0, [])
  | _ => none
def zJk : List SObj -> Nat -> Option (List SV)
  | [], _ => none
  | .glob g vs :: r, k => if g = k then some vs else zJk r k
  | _ :: r, k => zJk r k
def zUR (P : Program) (hp : List SObj) (t : TypeId) (g off : Nat) : Option SV :=
  match zJk hp g, P.underlying t, P.info? t with
  | some vs, some _, some i =>
    if zD5 P t then (if off + i.size <= vs.length then some (.agg ((vs.drop off).take i.size)) else none)
    else vs[off]?
  | _, _, _ => none
def zYf (P : Program) (hp : List SObj) (t : TypeId) (o off : Nat) : Option SV :=
  match hp[o]?, P.underlying t, P.info? t with
  | some (.grown _ vs), some _, some i =>
    if zD5 P t then (if off + i.size <= vs.length then some (.agg ((vs.drop off).take i.size)) else none)
    else vs[off]?
  | _, _, _ => none
def zTU (dflt : Nat) : Option SV -> Option Nat
  | none => some dflt
  | some (.int _ (.lit h)) => if 0 <= h then some h.toNat else none
  | _ => none
def zMg (P : Program) (t : TypeId) (o off : Nat) (lo hi : Option SV) : Option SV :=
  match P.underlying t with
  | some (.array n e) =>
    match P.info? e, zTU n hi, zTU 0 lo with
    | some inf, some h, some l => if l <= h /\ h <= n then some (.slice o (if n = l then off else off + l * inf.size) (.lit (h - l)) (.lit (n - l))) else none
    | _, _, _ => none
  | _ => none
def zMf (P : Program) (hp : List SObj) (t : TypeId) (o sz st len : Nat) (lo hi : Option SV) : Option SV :=
  match P.underlying t with
  | some (.slice e) =>
    match P.info? e, hp[o]? with
    | some inf, some (.grown sz' vs) =>
      if inf.size = sz /\ sz' = sz /\ 0 < sz then
        match (match hi with | none => some len | some (.int _ (.lit h)) => if 0 <= h then some h.toNat else none | _ => none), (match lo with | none => some 0 | some (.int _ (.lit l)) => if 0 <= l then some l.toNat else none | _ => none) with
        | some h, some l => if l <= h /\ (st + h) * sz <= vs.length /\ (l = 0 ∨ (st + l) * sz < vs.length) then some (.sliceG o sz (st + l) (h - l)) else none
        | _, _ => none
      else none
    | _, _ => none
  | _ => none
def zRH : SV -> Option UInt8
  | .int .u8 (.lit n) => some (UInt8.ofNat n.toNat)
  | _ => none
def zFt : List SV -> Option (List UInt8)
  | [] => some []
  | v :: r =>
    match zRH v, zFt r with
    | some b, some l => some (b :: l)
    | _, _ => none
def zNI : SV -> Option UInt8
  | .int .u8 e => some (UInt8.ofNat e.den.toNat)
  | _ => none
def zCC : List SV -> Option (List UInt8)
  | [] => some []
  | v :: r =>
    match zNI v, zCC r with
    | some b, some l => some (b :: l)
    | _, _ => none
def zEA (P : Program) (σ : St) (op : Op) : Option (Option BE × SV) :=
  match op with
  | .load t p =>
    match σ.eval p with
    | some (.ptr o off) => (zYf P σ.hp t o off).map fun v => (none, v)
    | some (.gptr g off) => (zUR P σ.hp t g off).map fun v => (none, v)
    | _ => none
  | .indexAddr t x i =>
    match P.underlying t, σ.eval x, σ.eval i with
    | some (.array len e), some (.gptr g off), some (.int _ (.lit n)) =>
      match P.info? e with
      | some inf => if 0 <= n /\ n < len then some (none, .gptr g (off + n.toNat * inf.size)) else none
      | none => none
    | some (.slice e), some (.sliceG o sz st len), some (.int _ (.lit n)) =>
      match P.info? e with
      | some inf => if inf.size = sz /\ 0 <= n /\ n < len then some (none, .ptr o ((st + n.toNat) * sz)) else none
      | none => none
    | _, _, _ => none
  | .slice t x lo hi none =>
    match σ.eval x, zId σ lo, zId σ hi with
    | some (.sliceG o sz st len), some l, some h => (zMf P σ.hp t o sz st len l h).map fun v => (none, v)
    | some (.ptr o off), some l, some h => (zMg P t o off l h).map fun v => (none, v)
    | _, _, _ => none
  | .convert src dst x =>
    match P.underlying src, P.underlying dst, σ.eval x with
    | some (.slice e), some .string, some v => match P.underlying e with
      | some (.int .u8) =>
        match zI6 σ.hp 1 v with
        | some (_, l) => match zFt l with
          | some bs => some (none, .str ⟨bs.toArray⟩)
          | none => (zCC l).map fun bs => (none, .strE ⟨bs.toArray⟩)
        | none => none
      | _ => none
    | _, _, _ => none
  | .binOp op t x y _ =>
    match P.underlying t, σ.eval x, σ.eval y with
    | some .string, some (.str a), some (.str b) =>
      match op with
      | .eql => some (none, .bool (.lit (a.data.toList == b.data.toList)))
      | .neq => some (none, .bool (.lit (!(a.data.toList == b.data.toList))))
      | _ => none
    | _, _, _ => none
  | .call c =>
    match c.callee, c.args.toList with
    | .builtin .len, [x] =>
      match c.argTypes[0]?, σ.eval x with
      | some t, some (.sliceG _ _ _ len) => match P.underlying t with
        | some (.slice _) => some (none, .int .i64 (.lit len))
        | _ => none
      | _, _ => none
    | _, _ => none
  | _ => none
def zHB (P : Program) (σ : St) (op : Op) : Option (Option BE × SV) :=
  match zBM P σ op with
  | some r => some r
  | none => match zEA P σ op with
    | some r => some r
    | none => match zDS P σ op with
      | some r => some r
      | none => zE1 P σ op
abbrev zl := List SV -> List SObj -> (SV -> List SObj -> Prop) -> Prop
abbrev zBN := List SV -> Option (Option BE × SV)
abbrev zEz := List SV -> List SObj -> Option (SV × List SObj)
inductive Cal where
  | pure (F : zBN)
  | spec (s : zl) (g : zEz)
def zBi (P : Program) (σ : St) (c : Call) : Option (FuncId × List SV) :=
  match zBa σ c.args.toList with
  | some args =>
    match c.callee with
    | .value f =>
      match σ.eval f with
      | some (.func (.func g) first captured) => some (g, first ++ args ++ captured)
      | _ => none
    | .invoke r name =>
      match σ.eval r with
      | some (.iface t v) =>
        match P.info? t with
        | some i =>
          match i.methods.find? (·.name == name) with
          | some m =>
            if m.path.isEmpty then
              match m.func, P.underlying t with
              | some (g, true), some (.pointer _) => some (g, v :: args)
              | some (g, false), some (.pointer _) => none
              | some (g, false), some _ => some (g, v :: args)
              | _, _ => none
            else none
          | none => none
        | none => none
      | _ => none
    | .builtin _ => none
  | none => none
def zKw (P : Program) (g : FuncId) : Bool :=
  match P.funcs[g]? with
  | some fn => !(fn.name == "runtime.NumGoroutine") && fn.body.isSome
  | none => false
inductive zUB (o : Op) : Prop
inductive zF (c : Nat) : Prop
def layK (σ : St) (k : Option Nat) (x : SObj) (d : Option Nat) (f : Nat -> SV) (K : St -> Prop) : Prop :=
  fObj x fun x =>
    match k with
    | none => putH σ (σ.hp ++ [x]) d (f σ.hp.length) K
    | some k =>
      match σ.hp[k]? with
      | some .dead => putH σ (zS σ.hp k x) d (f k) K
      | _ => zF 7000000
def Way (e : BE) (A B : Prop) : Prop :=
  match e with
  | .lit true => A
  | .lit false => B
  | e => (e.den = true -> A) /\ (e.den = false -> B)
def zFe (d : Nat) (b : Bool) : Nat := 1000000 + 2 * d + b.toNat
def WayO (Γ : FuncId -> Option Cal) (d : Nat) (e : BE) (A B : Prop) : Prop :=
  match e with
  | .lit true => A
  | .lit false => B
  | e =>
    match Γ (zFe d true) with
    | some _ => e.den = true /\ A
    | none =>
      match Γ (zFe d false) with
      | some _ => e.den = false /\ B
      | none => (e.den = true -> A) /\ (e.den = false -> B)
def zXQ : Operand -> Nat
  | .tmp d => d
  | _ => 400000
def Col.shift (c : Col) (s : Nat) : Col :=
  match c with
  | .int k g => .int k fun e => g (s + e)
  | .bool g => .bool fun e => g (s + e)
  | .val g => .val fun e => g (s + e)
  | .str g => .str fun e => g (s + e)
  | .dark => .dark
def Col.app (a : Col) (la : Nat) (b : Col) (lb : Nat) (z : Col) : Option Col :=
  match a, b, z with
  | .int k f, .int k' g, .int k'' h => if k = k' /\ k = k'' then some (.int k fun e => bif Nat.blt e la then f e else bif Nat.blt e (la + lb) then g (e - la) else h e) else none
  | .bool f, .bool g, .bool h => some (.bool fun e => bif Nat.blt e la then f e else bif Nat.blt e (la + lb) then g (e - la) else h e)
  | .val f, .val g, .val h => some (.val fun e => bif Nat.blt e la then f e else bif Nat.blt e (la + lb) then g (e - la) else h e)
  | .str f, .str g, .str h => some (.str fun e => bif Nat.blt e la then f e else bif Nat.blt e (la + lb) then g (e - la) else h e)
  | _, _, _ => none
def zAk (la lb : Nat) : List Col -> List Col -> List Col -> Option (List Col)
  | [], [], [] => some []
  | a :: as, b :: bs, z :: zs =>
    match a.app la b lb z, zAk la lb as bs zs with
    | some c, some l => some (c :: l)
    | _, _ => none
  | _, _, _ => none
def Col.over (a : Col) (lo : Nat) (b : Col) (m : Nat) : Option Col :=
  match a, b with
  | .int k f, .int k' g => if k = k' then some (.int k fun e => bif Nat.ble lo e && Nat.blt e (lo + m) then g (e - lo) else f e) else none
  | .bool f, .bool g => some (.bool fun e => bif Nat.ble lo e && Nat.blt e (lo + m) then g (e - lo) else f e)
  | .val f, .val g => some (.val fun e => bif Nat.ble lo e && Nat.blt e (lo + m) then g (e - lo) else f e)
  | .str f, .str g => some (.str fun e => bif Nat.ble lo e && Nat.blt e (lo + m) then g (e - lo) else f e)
  | _, _ => none
def zB8 (lo m : Nat) : List Col -> List Col -> Option (List Col)
  | [], [] => some []
  | a :: as, b :: bs =>
    match a.over lo b m, zB8 lo m as bs with
    | some c, some l => some (c :: l)
    | _, _ => none
  | _, _ => none
def zPn : SV -> Col
  | .int k a => .int k fun _ => a
  | .bool a => .bool fun _ => a
  | .str s => .str fun _ => s
  | v => .val fun _ => v.den fun _ => ⟨0, 0, false⟩
def zFV (P : Program) (e : TypeId) : Option (List Col) :=
  match zBA P e, P.info? e with
  | some z, some i => if z.cells.length = i.size /\ z.cells.all SV.one = true /\ 0 < i.size then some (z.cells.map zPn) else none
  | _, _ => none
def SV.put1 (c : Col) (i : Nat) (v : SV) : Option Col :=
  match c, v with
  | .int k g, .int k' a => if k = k' then some (.int k fun e => bif Nat.beq e i then a else g e) else none
  | .bool g, .bool a => some (.bool fun e => bif Nat.beq e i then a else g e)
  | .str g, .str s => some (.str fun e => bif Nat.beq e i then s else g e)
  | .str g, .strE s => some (.str fun e => bif Nat.beq e i then s else g e)
  | _, _ => none
def zGS (i : Nat) : List Col -> Nat -> List SV -> Option (List Col)
  | cols, _, [] => some cols
  | cols, c, v :: r =>
    match cols[c]? with
    | some col => match SV.put1 col i v with
      | some col' => zGS i (zS cols c col') (c + 1) r
      | none => none
    | none => none
def zU6 (hp : List SObj) (sz : Nat) (zs : List Col) (x : SV) : Option (Option BE × List Col × NE) :=
  match x with
  | .nils => some (none, zs, .lit 0)
  | x =>
    match zHq hp sz x with
    | some (_, _, cols, n, st, len, _) => (askB (leNE (NE.two (· + ·) st len) n)).map fun p => (p, cols.map (fun c => c.shift st.den), len)
    | none => none
def zRj (σ : St) (d : Option Nat) (sz bytes : Nat) (cs : Option (List Col)) (need : NE) (K : St -> Prop) : Prop :=
  match cs with
  | some cs => need.den * bytes <= 140737488355328 /\ ∀ cap : Nat, need.den <= cap -> cap <= 9223372036854775807 ->
      putH σ (σ.hp ++ [.row true false cs (.var cap)]) d (.sliceE false σ.hp.length sz (.lit 0) need (.var cap)) K
  | none => zF 31
def zXi (σ : St) (d : Option Nat) (sz : Nat) (inp : Bool) (o : Nat) (bs : List Col) (st len m need cap : NE) (K : St -> Prop) : Prop :=
  match σ.hp[o]? with
  | some (.row true inp' cols n) =>
    if inp' = inp /\ cols.length = sz then
      match askB (leNE (NE.two (· + ·) st cap) n), zB8 (st.den + len.den) m.den cols bs with
      | some p, some cs => askP p (putH σ (zS σ.hp o (.row true inp cs n)) d (.sliceE inp o sz st need cap) K)
      | _, _ => zF 32
    else zF 33
  | _ => zF 34
structure Unk where
  i : Nat -> Nat -> Int
  b : Nat -> Nat -> Bool
  s : Nat -> Nat -> ByteArray
  v : Nat -> Nat -> Value
def zJD (U : Unk) (j : Nat) : Col -> Col
  | .int k _ => .int k fun e => .var (U.i j e)
  | .bool _ => .bool fun e => .var (U.b j e)
  | .str _ => .str fun e => U.s j e
  | .val _ => .val fun e => U.v j e
  | .dark => .dark
def zCj (U : Unk) : Nat -> List Col -> List Col
  | _, [] => []
  | j, c :: r => zJD U j c :: zCj U (j + 1) r
def zQ9 (σ : St) (d : Option Nat) (sz bytes : Nat) (inp : Bool) (hp : List SObj) (as bs zs : List Col) (len m need : NE) (K : St -> Prop) : Prop :=
  need.den * bytes <= 140737488355328 /\ ∀ (U : Unk) (cap : Nat), need.den <= cap -> cap <= 9223372036854775807 ->
    match zAk len.den m.den as bs (zCj U 0 zs) with
    | some cs => putH σ (hp ++ [.row true inp cs (.var cap)]) d (.sliceE inp hp.length sz (.lit 0) need (.var cap)) K
    | none => zF 48
def zSC (cap : NE) : Option BE :=
  match cap with
  | .lit n => if n <= 1000000 then none else some (.lit false)
  | .var n => some (.var (decide (n <= 9223372036854775807)))
def zII (hp : List SObj) (o : Nat) : Bool :=
  match hp[o]? with
  | some (.row true _ _ _) => true
  | some (.cells _ _) => true
  | _ => false
def zHT (hp : List SObj) (o : Nat) (st len m cap n : NE) : Option (Option BE) :=
  match zII hp o, leNE (NE.two (· + ·) len m) cap, st with
  | true, .var _, .lit 0 => askB (leNE cap n)
  | _, _, _ => none
def zV5 (r : Option (Option BE)) (cap : NE) (A C : Prop) : Prop :=
  match r with
  | some q => askP q (askP (zSC cap) A)
  | none => C
def zGK (p : BE) (A B : Prop) : Prop :=
  match p with
  | .lit true => A
  | .lit false => B
  | p => (p.den = true -> A) /\ (p.den = false -> B)
def zKD (P : Program) (t t2 : TypeId) (σ : St) (d : Option Nat) (s x : SV) (K : St -> Prop) : Prop :=
  match P.underlying t with
  | some (.slice e) =>
    match P.info? e, zFV P e with
    | some inf, some zs =>
      if t2 = t /\ 0 < inf.bytes then
        match zU6 σ.hp inf.size zs x with
        | some (p, bs, m) => askP p (
          match s with
          | .nils =>
            match m with
            | .lit _ => zGK (leNE m (.lit 0)) (putK σ d .nils K) (zRj σ d inf.size inf.bytes (zAk 0 m.den zs bs zs) m K)
            | m => zQ9 σ d inf.size inf.bytes true σ.hp zs bs zs (.lit 0) m m K
          | s =>
            match zHq σ.hp inf.size s with
            | some (inp, o, cols, n, st, len, cap) =>
              match askB (leNE (NE.two (· + ·) st len) n) with
              | some q => askP q (
                zV5 (zHT σ.hp o st len m cap n) cap (zQ9 σ d inf.size inf.bytes inp (zS σ.hp o .husk) cols bs zs len m (NE.two (· + ·) len m) K)
                  (zGK (leNE (NE.two (· + ·) len m) cap)
                    (zXi σ d inf.size inp o bs st len m (NE.two (· + ·) len m) cap K)
                    (zRj σ d inf.size inf.bytes (zAk len.den m.den (cols.map fun c => c.shift st.den) bs zs) (NE.two (· + ·) len m) K)))
              | none => zF 35
            | none => zF 36)
        | none => zF 37
      else zF 38
    | _, _ => zF 39
  | _ => zF 40
def zJ2 (P : Program) (σ : St) (d : Option Nat) (t : TypeId) (inp : Bool) (o sz : Nat) (i : NE) (c : Nat) (v : SV) (K : St -> Prop) : Prop :=
  match σ.hp[o]?, P.info? t with
  | some (.row true inp' cols n), some inf =>
    if inp' = inp /\ cols.length = sz /\ v.cells.length = inf.size then
      match askB (leNE (NE.two (· + ·) i (.lit 1)) n), zGS i.den cols c v.cells with
      | some p, some cs => askP p (putH σ (zS σ.hp o (.row true inp cs n)) d SV.undef K)
      | _, _ => zF 41
    else zF 42
  | _, _ => zF 43
def zRD (bytes : Nat) (len cap : IE) : BE :=
  match len, cap with
  | .lit x, .lit y => .lit (decide (0 <= x /\ x <= y /\ y * (bytes : Int) <= 281474976710656))
  | _, _ => .var (decide (0 <= len.den /\ len.den <= cap.den /\ cap.den * (bytes : Int) <= 281474976710656))
def zP5 (P : Program) (σ : St) (d : Option Nat) (t : TypeId) (len cap : IE) (K : St -> Prop) : Prop :=
  match P.underlying t with
  | some (.slice e) =>
    match P.info? e, zFV P e with
    | some inf, some zs =>
      if 0 < inf.bytes then
        match askB (zRD inf.bytes len cap) with
        | some p => askP p (putH σ (σ.hp ++ [.row true false zs cap.nat]) d (.sliceE false σ.hp.length inf.size (.lit 0) len.nat cap.nat) K)
        | none => zF 44
      else zF 45
    | _, _ => zF 46
  | _ => zF 47
def zKj (σ : St) (ob : Nat) (d : Option Nat) (x : SObj) (v : SV) (K : St -> Prop) : Prop := fObj x fun y => putH σ (zS σ.hp ob y) d v K
def zGZ (σ : St) (ob : Nat) (d : Option Nat) (x : SObj) (K : St -> Prop) : Prop := fObj x fun y => putH σ (zS σ.hp ob y) d SV.undef K
def zMZ (P : Program) (t : TypeId) (m ky : Operand) (d : Option Nat) (σ : St) (K : St -> Prop) : Option Prop :=
  match P.underlying t, σ.eval m, σ.eval ky with
  | some (.map kt et), some (.mapv ob), some key =>
    match zBA P et, σ.hp[ob]?, zIP P kt key with
    | some z, some (.map ks vs), true =>
      match zDx P kt key ks 0 with
      | some (some j) => match vs[j]? with
        | some v => some (zKj σ ob d (.map ks vs) (.tuple [v, .int .i64 (.lit j)]) K)
        | none => none
      | some none => some (zKj σ ob d (.map (ks ++ [key]) (vs ++ [z])) (.tuple [z, .int .i64 (.lit ks.length)]) K)
      | none => none
    | _, _, _ => none
  | _, _, _ => none
def zEC (m s x : Operand) (d : Option Nat) (σ : St) (K : St -> Prop) : Option Prop :=
  match σ.eval m, σ.eval s, σ.eval x with
  | some (.mapv ob), some (.int _ (.lit (.ofNat j))), some v =>
    match σ.hp[ob]? with
    | some (.map ks vs) => if j < vs.length then some (zGZ σ ob d (.map ks (zS vs j v)) K) else none
    | _ => none
  | _, _, _ => none
def zNa (P : Program) (k : Option Nat) (o : Oper) (σ : St) (K : St -> Prop) : Option Prop :=
  match o.op with
  | .store t p x =>
    match σ.eval p, σ.eval x with
    | some (.ptrE inp ob sz i c), some v => some (zJ2 P σ o.dst t inp ob sz i c v K)
    | _, _ => none
  | .makeSlice t len cap =>
    match σ.eval len, σ.eval cap with
    | some (.int _ l), some (.int _ c) => some (zP5 P σ o.dst t l c K)
    | _, _ => none
  | .buildSlice t 0 parts =>
    match parts.toList, P.underlying t, k with
    | [], some (.slice e), none =>
      match P.info? e, zFV P e with
      | some inf, some zs => some (putH σ (σ.hp ++ [.row true false zs (.lit 0)]) o.dst (.sliceE false σ.hp.length inf.size (.lit 0) (.lit 0) (.lit 0)) K)
      | _, _ => none
    | _, _, _ => none
  | .call c =>
    match c.callee, c.args.toList, c.argTypes.toList, k with
    | .builtin .append, [s, x], [t, t2], none =>
      match σ.eval s, σ.eval x with
      | some s, some x => some (zKD P t t2 σ o.dst s x K)
      | _, _ => none
    | _, _, _, _ => none
  | .makeMap t none =>
    match k with
    | none => some (putH σ (σ.hp ++ [.map [] []]) o.dst (.mapv σ.hp.length) K)
    | some _ => none
  | .mapUpdate t m ky x | .insert t m ky x =>
    match P.underlying t, σ.eval m, σ.eval ky, σ.eval x with
    | some (.map kt _), some (.mapv ob), some (.int kk (.lit b)), some v =>
      match P.underlying kt, σ.hp[ob]? with
      | some (.int k0), some (.map ks vs) =>
        if k0 ≠ kk then none else
        match zEQ kk b ks 0 with
        | some (some j) => some (zGZ σ ob o.dst (.map ks (zS vs j v)) K)
        | some none => some (zGZ σ ob o.dst (.map (ks ++ [.int kk (.lit b)]) (vs ++ [v])) K)
        | none => none
      | _, _ => none
    | _, _, _, _ => none
  | .mapEntry t m ky => zMZ P t m ky o.dst σ K
  | .entryStore _ m s x => zEC m s x o.dst σ K
  | .convert src dst x =>
    match P.underlying src, P.underlying dst, σ.eval x, k with
    | some .string, some (.slice e), some v, none =>
      match P.underlying e, zFf v with
      | some (.int .u8), some s => some (s.size <= 140737488355328 /\ ∀ cap : Nat, s.size <= cap -> cap <= 9223372036854775807 ->
          putH σ (σ.hp ++ [.row true false [.int .u8 (if zDU v then fun e => .lit (zDc s e) else fun e => .var (zDc s e))] (.var cap)]) o.dst (.sliceE false σ.hp.length 1 (.lit 0) (if zDU v then .lit s.size else .var s.size) (.var cap)) K)
      | _, _ => none
    | some (.slice _), some (.slice e), some (.slice ob off len cap), _ =>
      match P.underlying e, σ.hp[ob]? with
      | some (.int .u8), some (.cells vs ty) =>
        match zAB 1 (.cells vs ty) with
        | some (false, cols, n) => if src = dst then some (putH σ (zS σ.hp ob (.row true false cols n)) o.dst (.sliceE false ob 1 (.lit off) len cap) K) else none
        | _ => none
      | _, _ => none
    | _, _, _, _ => none
  | _ => none
def zBq (σ : St) (d : Option Nat) (sz : Nat) (hp : List SObj) (cs : List SV) (len : Nat) (K : St -> Prop) : Prop :=
  fObj (.grown sz cs) fun x => putH σ (hp ++ [x]) d (.sliceG hp.length sz 0 len) K
def zBX (s : ByteArray) : List SV := s.data.toList.map fun b => .int .u8 (.lit b.toNat)
def zOF (P : Program) (hp : List SObj) (sz : Nat) (e t t2 : TypeId) (x : SV) : Option (Nat × List SV) :=
  match x with
  | .str s =>
    match P.underlying t2, P.underlying e with
    | some .string, some (.int .u8) => if sz = 1 then some (s.size, zBX s) else none
    | _, _ => none
  | x => if t2 = t then zI6 hp sz x else none
def zHn (P : Program) (t t2 : TypeId) (σ : St) (d : Option Nat) (s x : SV) (K : St -> Prop) : Option Prop :=
  match P.underlying t with
  | some (.slice e) =>
    match P.info? e, zBA P e with
    | some inf, some z =>
      if z.cells.length = inf.size /\ 0 < inf.size /\ 0 < inf.bytes /\ z.cells.all SV.one = true then
        match zOF P σ.hp inf.size e t t2 x with
        | some (m, xs) =>
          if xs.all SV.one = true /\ m <= 1000000 /\ inf.bytes <= 1000 /\ zDK inf.size z xs = true then
            if m = 0 then
              match s with
              | .nils => some (putK σ d .nils K)
              | .sliceG o sz st len => match zI6 σ.hp inf.size (.sliceG o sz st len), σ.hp[o]? with
                | some _, some (.grown sz' _) => if sz' = sz then some (putK σ d (.sliceG o sz st len) K) else none
                | _, _ => none
              | .slice o off (.lit len) (.lit cap) => if len <= cap then some (putK σ d (.slice o off (.lit len) (.lit cap)) K) else none
              | _ => none
            else
              match s with
              | .nils => some (zBq σ d inf.size σ.hp xs m K)
              | .sliceE false o _ _ (.lit 0) (.lit 0) => some (zBq σ d inf.size σ.hp xs m K)
              | .sliceG o sz 0 len =>
                match σ.hp[o]? with
                | some (.grown sz' vs) => if sz = inf.size /\ sz' = inf.size /\ vs.length = len * inf.size /\ len <= 1000000 /\ zDX inf.size vs xs = true then some (zBq σ d inf.size (zS σ.hp o .husk) (vs ++ xs) (len + m) K) else none
                | _ => none
              | .slice o off (.lit len) (.lit cap) =>
                match σ.hp[o]? with
                | some (.cells vs ty) =>
                  if len + m <= cap then
                    if off + cap * inf.size <= vs.length then some (fObj (.cells (zo vs (off + len * inf.size) xs) ty) fun y => putH σ (zS σ.hp o y) d (.slice o off (.lit (len + m)) (.lit cap)) K) else none
                  else if len <= 1000000 /\ len <= cap then
                    match zGs vs off (len * inf.size) with
                    | some l => if l.all SV.one = true /\ zDK inf.size z l = true then some (zBq σ d inf.size σ.hp (l ++ xs) (len + m) K) else none
                    | none => none
                  else none
                | _ => none
              | _ => none
          else none
        | none => none
      else none
    | _, _ => none
  | _ => none
def zNZ (P : Program) (k : Option Nat) (o : Oper) (σ : St) (K : St -> Prop) : Option Prop :=
  match o.op with
  | .store t p x =>
    match σ.eval p, σ.eval x with
    | some (.ptr ob off), some v =>
      match σ.hp[ob]?, P.info? t with
      | some (.grown sz vs), some i =>
        if v.cells.length = i.size /\ off + i.size <= vs.length /\ v.cells.all SV.one = true /\ zDX sz vs v.cells = true then some (fObj (.grown sz (zo vs off v.cells)) fun y => putH σ (zS σ.hp ob y) o.dst SV.undef K) else none
      | _, _ => none
    | _, _ => none
  | .makeSlice t len cap =>
    match σ.eval len, σ.eval cap, P.underlying t with
    | some (.int _ (.lit l)), some (.int _ (.lit c)), some (.slice e) =>
      match P.info? e, zBA P e with
      | some inf, some z =>
        if 0 <= l /\ l <= c /\ c <= 4096 /\ 0 < inf.bytes /\ inf.bytes <= 1000 /\ z.cells.length = inf.size /\ z.cells.all SV.one = true /\ 0 < c.toNat * inf.size then
          some (layK σ k (.cells ((List.range (c.toNat * inf.size)).map fun j => z.cells.getD (j % inf.size) SV.undef) e) o.dst (fun b => .slice b 0 (.lit l.toNat) (.lit c.toNat)) K)
        else none
      | _, _ => none
    | _, _, _ => none
  | .call c =>
    match c.callee, c.args.toList, c.argTypes.toList, k with
    | .builtin .append, [s, x], [t, t2], none =>
      match σ.eval s, σ.eval x with
      | some s, some x => zHn P t t2 σ o.dst s x K
      | _, _ => none
    | _, _, _, _ => none
  | .convert src dst x =>
    match P.underlying src, P.underlying dst, σ.eval x, k with
    | some .string, some (.slice e), some (.str s), none =>
      match P.underlying e with
      | some (.int .u8) => if s.size <= 1000000 then some (zBq σ o.dst 1 σ.hp (zBX s) s.size K) else none
      | _ => none
    | some (.slice _), some (.slice e), some (.slice ob 0 (.lit len) (.lit cap)), none =>
      match P.underlying e, σ.hp[ob]? with
      | some (.int .u8), some (.cells vs ty) => if src = dst /\ vs.length = len /\ cap = len /\ vs.all SV.one = true /\ len <= 1000000 /\ (vs.isEmpty || zDX 1 vs vs) = true then some (zBq σ o.dst 1 (zS σ.hp ob .husk) vs len K) else none
      | _, _ => none
    | _, _, _, _ => none
  | _ => none
def zP2 (P : Program) (k : Option Nat) (o : Oper) (σ : St) (K : St -> Prop) : Option Prop :=
  match zNZ P k o σ K with
  | some p => some p
  | none => zNa P k o σ K
def zEB (P : Program) (Γ : FuncId -> Option Cal) (k : Option Nat) (o : Oper) (σ : St) (K : St -> Prop) : Prop :=
  match zP2 P k o σ K with
  | some p => p
  | none =>
  match o.op with
  | .alloc e =>
    match zBA P e with
    | some z => layK σ k (.cells z.cells e) o.dst (fun b => .ptr b 0) K
    | none => False
  | .box e x =>
    match σ.eval x with
    | some v => layK σ k (.cells v.cells e) o.dst (fun b => .ptr b 0) K
    | none => False
  | .buildSlice t len parts =>
    match P.underlying t, zAi σ parts.toList with
    | some (.slice e), some l =>
      match P.info? e, zBA P e with
      | some i, some z =>
        if len * i.size <= 1000000 /\ z.cells.length = i.size /\ 0 < len * i.size then
          match zKv (fun j => some (j * i.size, i.size)) ((List.range (len * i.size)).map fun j => z.cells.getD (j % i.size) SV.undef) l with
          | some cs => layK σ k (.cells cs e) o.dst (fun b => .slice b 0 (.lit len) (.lit len)) K
          | none => False
        else False
      | _, _ => False
    | _, _ => False
  | .store t p x =>
    match σ.eval p, σ.eval x with
    | some (.ptr ob off), some v =>
      match zNc P σ.hp t ob off v with
      | some x => fObj x fun x => putH σ (zS σ.hp ob x) o.dst SV.undef K
      | none => False
    | _, _ => False
  | op =>
    match zHB P σ op with
    | some (none, v) => putK σ o.dst v K
    | some (some p, v) => p.den = true /\ putK σ o.dst v K
    | none =>
      match op with
      | .call c =>
        match zBi P σ c with
        | some (g, args) =>
          if zKw P g then
            match Γ g with
            | some (.spec s _) => s args σ.hp fun v hp => putH σ (hp) o.dst v K
            | some (.pure F) =>
              match F args with
              | some (none, v) => putK σ o.dst v K
              | some (some p, v) => p.den = true /\ putK σ o.dst v K
              | none => zF g
            | none => zF g
          else zUB op
        | none => zUB op
      | _ => zUB op
def zDa (ops : List Oper) (o : Oper) : Option (Option (Nat × Bool)) :=
  match o.guard with
  | none => some none
  | some (j, b) =>
    match ops[j]? with
    | some oj =>
      match oj.dst with
      | some d => some (some (d, b))
      | none => none
    | none => none
def St.told (σ : St) (x : Operand) (b : Bool) : St :=
  match x with
  | .tmp d => { σ with tmps := zS σ.tmps d (.bool (.lit b)) }
  | _ => σ
def zHC (P : Program) (Γ : FuncId -> Option Cal) (ops : List Oper) : List Oper -> St -> (St -> Prop) -> Prop
  | [], σ, K => K σ
  | o :: rest, σ, K =>
    match zDa ops o with
    | some none => zEB P Γ none o σ fun σ' => zHC P Γ ops rest σ' K
    | some (some (d, b)) =>
      match σ.tmps[d]? with
      | some (.bool e) => WayO Γ d e
        (if b then zEB P Γ none o (σ.told (.tmp d) true) fun σ' => zHC P Γ ops rest σ' K else zHC P Γ ops rest ((σ.told (.tmp d) true).put o.dst SV.undef) K)
        (if b then zHC P Γ ops rest ((σ.told (.tmp d) false).put o.dst SV.undef) K else zEB P Γ none o (σ.told (.tmp d) false) fun σ' => zHC P Γ ops rest σ' K)
      | some (.tuple []) => zHC P Γ ops rest (σ.put o.dst SV.undef) K
      | _ => False
    | none => False
def zB7 (P : Program) (Γ : FuncId -> Option Cal) (σ : St) (op : Op) : Option (Option BE × SV) :=
  match zHB P σ op with
  | some r => some r
  | none =>
    match op with
    | .call c =>
      match zBi P σ c with
      | some (g, args) =>
        if zKw P g then
          match Γ g with
          | some (.pure F) => F args
          | _ => none
        else none
      | none => none
    | _ => none
def zHd (r : Option (Option BE × SV)) (o : Op) (f : SV -> Prop) : Prop :=
  match r with
  | some (none, v) => f v
  | some (some p, v) => p.den = true /\ f v
  | none => zUB o
def zCM (one : St -> Op -> Option (Option BE × SV)) (ops : List Oper) : List Oper -> St -> (St -> Prop) -> Prop
  | [], σ, K => K σ
  | o :: rest, σ, K =>
    match zDa ops o with
    | some none => zHd (one σ o.op) o.op fun v => putK σ o.dst v fun σ => zCM one ops rest σ K
    | some (some (d, b)) =>
      match σ.tmps[d]? with
      | some (.bool e) => Way e
        (if b then zHd (one (σ.told (.tmp d) true) o.op) o.op (fun v => putK (σ.told (.tmp d) true) o.dst v fun σ => zCM one ops rest σ K) else zCM one ops rest ((σ.told (.tmp d) true).put o.dst SV.undef) K)
        (if b then zCM one ops rest ((σ.told (.tmp d) false).put o.dst SV.undef) K else zHd (one (σ.told (.tmp d) false) o.op) o.op (fun v => putK (σ.told (.tmp d) false) o.dst v fun σ => zCM one ops rest σ K))
      | some (.tuple []) => zCM one ops rest (σ.put o.dst SV.undef) K
      | _ => False
    | none => False
def zOD : Op -> Bool
  | .alloc _ | .box _ _ | .buildSlice _ _ _ | .store _ _ _ | .makeSlice _ _ _ | .makeMap _ _ | .mapUpdate _ _ _ _ | .insert _ _ _ _ | .mapEntry _ _ _ | .entryStore _ _ _ _ | .range _ _ | .next _ _ => true
  | .call c =>
    match c.callee with
    | .builtin .append | .builtin .copy | .builtin .delete => true
    | _ => false
  | _ => false
def zOn : Op -> Bool
  | .call c =>
    match c.callee with
    | .builtin _ => false
    | _ => true
  | _ => false
def zQh (P : Program) (Γ : FuncId -> Option Cal) (σ : St) : Op -> Bool
  | .call c =>
    match c.callee with
    | .builtin _ => true
    | .value (.func g) => match Γ g with
      | some (.pure _) => true
      | _ => false
    | .value x => match σ.eval x with
      | some (.func (.func g) _ _) => match Γ g with
        | some (.pure _) => true
        | _ => false
      | _ => false
    | _ => false
  | _ => true
def zCX : List Oper -> Nat
  | [] => 0
  | o :: r => if zOD o.op then 0 else zCX r + 1
def zWM : Op -> Bool
  | .alloc _ | .box _ _ | .buildSlice _ _ _ => true
  | _ => false
def zKe : Op -> Bool
  | .makeSlice _ _ _ => true
  | op => zWM op
def z7 (ops : List Oper) (i : Nat) : Nat := ((ops.take i).filter fun o => zKe o.op).length
def zJ3 (P : Program) (Γ : FuncId -> Option Cal) (ops : List Oper) (k : Option Nat) (o : Oper) (σ : St) (K : St -> Prop) : Prop :=
  match zDa ops o with
  | some none => zEB P Γ k o σ K
  | some (some (d, b)) =>
    match σ.tmps[d]? with
    | some (.bool e) => WayO Γ d e
      (if b then zEB P Γ k o (σ.told (.tmp d) true) K else putK (σ.told (.tmp d) true) o.dst SV.undef K)
      (if b then putK (σ.told (.tmp d) false) o.dst SV.undef K else zEB P Γ k o (σ.told (.tmp d) false) K)
    | some (.tuple []) => putK σ o.dst SV.undef K
    | _ => False
  | none => False
def zP1 (P : Program) (Γ : FuncId -> Option Cal) (ops : List Oper) (base i : Nat) (o : Oper) (σ : St) (K : St -> Prop) : Prop :=
  zJ3 P Γ ops (if zKe o.op then some (base + z7 ops i) else none) o σ K
def zPz (P : Program) (ops : List Oper) (o : Oper) (σ : St) : Option SV :=
  let v := match zHB P { σ with hp := [] } o.op with
    | some (none, v) => some v
    | _ => none
  match zDa ops o with
  | some none => v
  | some (some (d, b)) =>
    match σ.tmps[d]? with
    | some (.bool (.lit e)) => if e = b then v else some SV.undef
    | some (.tuple []) => some SV.undef
    | _ => none
  | none => none
def zRF (P : Program) (st : List Nat) (ops : List Oper) (o : Oper) (σ : St) : Option SV :=
  match o.op with
  | .load t p =>
    match σ.eval p with
    | some (.ptr ob off) =>
      if st.contains ob then
        match zDa ops o with
        | some none => zLp P σ.hp t ob off
        | some (some (d, b)) =>
          match σ.tmps[d]? with
          | some (.bool (.lit e)) => if e = b then zLp P σ.hp t ob off else none
          | _ => none
        | none => none
      else none
    | _ => none
  | _ => none
def zBV (P : Program) (st : List Nat) (ops : List Oper) (listed : Array Bool) (σ : St) : List Nat -> Option (Nat × Oper × SV)
  | [] => none
  | i :: r =>
    match ops[i]? with
    | some o =>
      match zPz P ops o σ with
      | some v => if Region.free .any ops.toArray listed i then some (i, o, v) else zBV P st ops listed σ r
      | none =>
        match zRF P st ops o σ with
        | some v => if Region.free .any ops.toArray listed i then some (i, o, v) else zBV P st ops listed σ r
        | none => zBV P st ops listed σ r
    | none => zBV P st ops listed σ r
def zT9 : List Nat -> (Nat -> Prop) -> Prop
  | [], _ => True
  | [i], f => f i
  | i :: r, f => f i /\ zT9 r f
def zBl : IE -> IE -> Prop -> Prop
  | .lit a, .lit b, R => if a = b then R else zF 1
  | .var a, .var b, R => a = b /\ R
  | .add k a b, .add k' a' b', R | .sub k a b, .sub k' a' b', R | .mul k a b, .mul k' a' b', R | .quo k a b, .quo k' a' b', R | .shl k a b, .shl k' a' b', R | .shr k a b, .shr k' a' b', R =>
    if k = k' then zBl a a' (zBl b b' R) else zF 2
  | .rem a b, .rem a' b', R | .mn a b, .mn a' b', R | .mx a b, .mx a' b', R => zBl a a' (zBl b b' R)
  | .bits op k a b, .bits op' k' a' b', R => if op = op' /\ k = k' then zBl a a' (zBl b b' R) else zF 3
  | .conv k a, .conv k' a', R => if k = k' then zBl a a' R else zF 4
  | _, _, _ => zF 5
def zC5 : BE -> BE -> Prop -> Prop
  | .lit a, .lit b, R => if a = b then R else zF 6
  | .var a, .var b, R => a = b /\ R
  | .cmp op a b, .cmp op' a' b', R => if op = op' then zBl a a' (zBl b b' R) else zF 7
  | .not a, .not a', R => zC5 a a' R
  | .eq a b, .eq a' b', R => zC5 a a' (zC5 b b' R)
  | .ite c a b, .ite c' a' b', R => zC5 c c' (zC5 a a' (zC5 b b' R))
  | _, _, _ => zF 8
def zFi : NE -> NE -> Prop -> Prop
  | .lit a, .lit b, R => if a = b then R else zF 9
  | .var a, .var b, R => a = b /\ R
  | _, _, _ => zF 10
mutual
def zA6 : SV -> SV -> Prop -> Prop
  | .int k e, .int k' e', R => if k = k' then zBl e e' R else zF 11
  | .bool e, .bool e', R => zC5 e e' R
  | .str s, .str s', R => if s.data.toList = s'.data.toList then R else s = s' /\ R
  | .ptr o off, .ptr o' off', R => if o = o' /\ off = off' then R else zF 12
  | .nilp, .nilp, R | .nils, .nils, R | .nili, .nili, R | .nilf, .nilf, R | .nilm, .nilm, R => R
  | .slice o off l c, .slice o' off' l' c', R => if o = o' /\ off = off' then zFi l l' (zFi c c' R) else zF 13
  | .iface t v, .iface t' v', R => if t = t' then zA6 v v' R else zF 14
  | .agg l, .agg l', R | .tuple l, .tuple l', R => zBj l l' R
  | .func fn a b, .func fn' a' b', R => if fn = fn' then zBj a a' (zBj b b' R) else zF 15
  | .val a, .val b, R => a = b /\ R
  | .strE a, .strE b, R => a = b /\ R
  | .ptrE a o sz i c, .ptrE a' o' sz' i' c', R => if a = a' /\ o = o' /\ sz = sz' /\ c = c' then zFi i i' R else zF 26
  | .sliceE a o sz st l c, .sliceE a' o' sz' st' l' c', R => if a = a' /\ o = o' /\ sz = sz' then zFi st st' (zFi l l' (zFi c c' R)) else zF 27
  | .mapv o, .mapv o', R => if o = o' then R else zF 29
  | .sliceG o sz st l, .sliceG o' sz' st' l', R => if o = o' /\ sz = sz' /\ st = st' /\ l = l' then R else zF 30
  | .gptr g off, .gptr g' off', R => if g = g' /\ off = off' then R else zF 81
  | _, _, _ => zF 16
def zBj : List SV -> List SV -> Prop -> Prop
  | [], [], R => R
  | v :: r, v' :: r', R => zA6 v v' (zBj r r' R)
  | _, _, _ => zF 17
end
def zAe : List SObj -> List SObj -> Prop -> Prop
  | [], [], R => R
  | .cells l t :: r, .cells l' t' :: r', R => if t = t' then zBj l l' (zAe r r' R) else zF 18
  | .dead :: r, .dead :: r', R => zAe r r' R
  | .map k v :: r, .map k' v' :: r', R => zBj k k' (zBj v v' (zAe r r' R))
  | .husk :: r, .husk :: r', R => zAe r r' R
  | .glob g l :: r, .glob g' l' :: r', R => if g = g' then zBj l l' (zAe r r' R) else zF 82
  | .grown sz l :: r, .grown sz' l' :: r', R => if sz = sz' then zBj l l' (zAe r r' R) else zF 49
  | .row own inp cols n :: r, .row own' inp' cols' n' :: r', R => if own = own' /\ inp = inp' then cols = cols' /\ zFi n n' (zAe r r' R) else zF 28
  | _, _, _ => zF 19
def zFh (hp hp' : List SObj) : List Nat -> Prop -> Prop
  | [], R => R
  | o :: r, R =>
    match hp[o]?, hp'[o]? with
    | some (.cells l t), some (.cells l' t') => if t = t' then zBj l l' (zFh hp hp' r R) else zF 20
    | _, _ => zF 21
def zUG (Γ : FuncId -> Option Cal) (ops : List Oper) (σ : St) (o : Oper) : Option (Nat × BE × Bool) :=
  match zDa ops o with
  | some (some (d, _)) =>
    match σ.tmps[d]? with
    | some (.bool (.lit _)) => none
    | some (.bool e) =>
      match Γ (zFe d true) with
      | some _ => some (d, e, true)
      | none =>
        match Γ (zFe d false) with
        | some _ => some (d, e, false)
        | none => none
    | _ => none
  | _ => none
def zEd (Γ : FuncId -> Option Cal) (ops : List Oper) : List Nat -> St -> (St -> Prop) -> Prop
  | [], σ, K => K σ
  | i :: r, σ, K =>
    match ops[i]? with
    | some o =>
      match zUG Γ ops σ o with
      | some (d, e, b) => e.den = b /\ zCt (zS σ.tmps d (.bool (.lit b))) fun t => zEd Γ ops r { σ with tmps := t } K
      | none => zEd Γ ops r σ K
    | none => zEd Γ ops r σ K
def zLH (P : Program) (Γ : FuncId -> Option Cal) (st : List Nat) (h0 : List SObj) (ops : List Oper) (base : Nat) : Nat -> Array Bool -> St -> (St -> Prop) -> Prop
  | 0, listed, σ, K => if (Region.ready .any ops.toArray listed).isEmpty then K σ else zF 8000000
  | fuel + 1, listed, σ, K =>
    match Region.ready .any ops.toArray listed with
    | [] => K σ
    | i :: r => zEd Γ ops (i :: r) σ fun σ =>
      match zBV P st ops listed σ (i :: r) with
      | some (j, o, v) => putK σ o.dst v fun σ' => zLH P Γ st h0 ops base fuel (listed.setIfInBounds j true) σ' K
      | none => zT9 (i :: r) fun j =>
        match ops[j]? with
        | some o => zP1 P Γ ops base j o σ fun σ' => zFh σ'.hp h0 st (zLH P Γ st h0 ops base fuel (listed.setIfInBounds j true) σ' K)
        | none => zF 9000000
def zSY (σ : St) (k : Option Nat) (x : SObj) (d : Option Nat) (f : Nat -> SV) : Option St :=
  match k with
  | none => some (St.put { σ with hp := σ.hp ++ [x] } d (f σ.hp.length))
  | some k => some (St.put { σ with hp := zS σ.hp k x } d (f k))
def zJs (σ : St) (d : Option Nat) (sz : Nat) (hp : List SObj) (cs : List SV) (len : Nat) : Option St :=
  some (St.put { σ with hp := hp ++ [.grown sz cs] } d (.sliceG hp.length sz 0 len))
def zSZ (P : Program) (t t2 : TypeId) (σ : St) (d : Option Nat) (s x : SV) : Option St :=
  match P.underlying t with
  | some (.slice e) =>
    match P.info? e with
    | some inf =>
      match zOF P σ.hp inf.size e t t2 x with
      | some (m, xs) =>
        if m = 0 then some (σ.put d s)
        else
          match s with
          | .nils => zJs σ d inf.size σ.hp xs m
          | .sliceE false o _ _ (.lit 0) (.lit 0) => zJs σ d inf.size σ.hp xs m
          | .sliceG o sz 0 len =>
            match σ.hp[o]? with
            | some (.grown _ vs) => zJs σ d inf.size (zS σ.hp o .husk) (vs ++ xs) (len + m)
            | _ => none
          | .slice o off (.lit len) (.lit cap) =>
            match σ.hp[o]? with
            | some (.cells vs ty) =>
              if len + m <= cap then some (St.put { σ with hp := zS σ.hp o (.cells (zo vs (off + len * inf.size) xs) ty) } d (.slice o off (.lit (len + m)) (.lit cap)))
              else match zGs vs off (len * inf.size) with
                | some l => zJs σ d inf.size σ.hp (l ++ xs) (len + m)
                | none => none
            | _ => none
          | _ => none
      | none => none
    | none => none
  | _ => none
def zPs (P : Program) (Γ : FuncId -> Option Cal) (k : Option Nat) (o : Oper) (σ : St) : Option St :=
  match o.op with
  | .alloc e =>
    match zBA P e with
    | some z => zSY σ k (.cells z.cells e) o.dst (fun b => .ptr b 0)
    | none => none
  | .box e x =>
    match σ.eval x with
    | some v => zSY σ k (.cells v.cells e) o.dst (fun b => .ptr b 0)
    | none => none
  | .buildSlice t len parts =>
    match P.underlying t, zAi σ parts.toList with
    | some (.slice e), some l =>
      match P.info? e, zBA P e with
      | some i, some z =>
        match zKv (fun j => some (j * i.size, i.size)) ((List.range (len * i.size)).map fun j => z.cells.getD (j % i.size) SV.undef) l with
        | some cs => zSY σ k (.cells cs e) o.dst (fun b => .slice b 0 (.lit len) (.lit len))
        | none => none
      | _, _ => none
    | _, _ => none
  | .store t p x =>
    match σ.eval p, σ.eval x with
    | some (.ptr ob off), some v =>
      match σ.hp[ob]? with
      | some (.grown sz vs) => some (St.put { σ with hp := zS σ.hp ob (.grown sz (zo vs off v.cells)) } o.dst SV.undef)
      | _ => (zNc P σ.hp t ob off v).map fun x => St.put { σ with hp := zS σ.hp ob x } o.dst SV.undef
    | _, _ => none
  | .makeSlice t len cap =>
    match σ.eval len, σ.eval cap, P.underlying t with
    | some (.int _ (.lit l)), some (.int _ (.lit c)), some (.slice e) =>
      match P.info? e, zBA P e with
      | some inf, some z => if c <= 4096 /\ 0 < c.toNat * inf.size then zSY σ k (.cells ((List.range (c.toNat * inf.size)).map fun j => z.cells.getD (j % inf.size) SV.undef) e) o.dst (fun b => .slice b 0 (.lit l.toNat) (.lit c.toNat)) else none
      | _, _ => none
    | _, _, _ => none
  | .mapEntry t m ky =>
    match P.underlying t, σ.eval m, σ.eval ky with
    | some (.map kt et), some (.mapv ob), some key =>
      match zBA P et, σ.hp[ob]? with
      | some z, some (.map ks vs) =>
        match zDx P kt key ks 0 with
        | some (some j) => (vs[j]?).map fun v => σ.put o.dst (.tuple [v, .int .i64 (.lit j)])
        | some none => some (St.put { σ with hp := zS σ.hp ob (.map (ks ++ [key]) (vs ++ [z])) } o.dst (.tuple [z, .int .i64 (.lit ks.length)]))
        | none => none
      | _, _ => none
    | _, _, _ => none
  | .entryStore _ m s x =>
    match σ.eval m, σ.eval s, σ.eval x with
    | some (.mapv ob), some (.int _ (.lit (.ofNat j))), some v =>
      match σ.hp[ob]? with
      | some (.map ks vs) => some (St.put { σ with hp := zS σ.hp ob (.map ks (zS vs j v)) } o.dst SV.undef)
      | _ => none
    | _, _, _ => none
  | .makeMap _ none => some (St.put { σ with hp := σ.hp ++ [.map [] []] } o.dst (.mapv σ.hp.length))
  | .mapUpdate _ m ky x | .insert _ m ky x =>
    match σ.eval m, σ.eval ky, σ.eval x with
    | some (.mapv ob), some (.int kk (.lit b)), some v =>
      match σ.hp[ob]? with
      | some (.map ks vs) =>
        match zEQ kk b ks 0 with
        | some (some j) => some (St.put { σ with hp := zS σ.hp ob (.map ks (zS vs j v)) } o.dst SV.undef)
        | some none => some (St.put { σ with hp := zS σ.hp ob (.map (ks ++ [.int kk (.lit b)]) (vs ++ [v])) } o.dst SV.undef)
        | none => none
      | _ => none
    | _, _, _ => none
  | op =>
    match zHB P σ op with
    | some (_, v) => some (σ.put o.dst v)
    | none =>
      match op with
      | .call c =>
        match c.callee, c.args.toList, c.argTypes.toList with
        | .builtin .append, [s, x], [t, t2] =>
          match σ.eval s, σ.eval x with
          | some s, some x => zSZ P t t2 σ o.dst s x
          | _, _ => none
        | _, _, _ =>
        match zBi P σ c with
        | some (g, args) =>
          match Γ g with
          | some (.spec _ gu) => (gu args σ.hp).map fun r => St.put { σ with hp := r.2 } o.dst r.1
          | some (.pure F) => (F args).map fun r => σ.put o.dst r.2
          | none => none
        | none => none
      | _ => none
def zPq (P : Program) (Γ : FuncId -> Option Cal) (ops : List Oper) (k : Option Nat) (o : Oper) (σ : St) : Option St :=
  match zDa ops o with
  | some none => zPs P Γ k o σ
  | some (some (d, b)) =>
    match σ.tmps[d]? with
    | some (.bool (.lit e)) => if e = b then zPs P Γ k o σ else some (σ.put o.dst SV.undef)
    | some (.tuple []) => some (σ.put o.dst SV.undef)
    | some (.bool _) =>
      match Γ (zFe d b) with
      | some _ => zPs P Γ k o (σ.told (.tmp d) b)
      | none => match Γ (zFe d (!b)) with
        | some _ => some ((σ.told (.tmp d) (!b)).put o.dst SV.undef)
        | none => none
    | _ => none
  | none => none
def zU1 (P : Program) (Γ : FuncId -> Option Cal) (ops : List Oper) : List Oper -> St -> Option St
  | [], σ => some σ
  | o :: r, σ =>
    match zPq P Γ ops none o σ with
    | some σ' => zU1 P Γ ops r σ'
    | none => none
def zSX (P : Program) (Γ : FuncId -> Option Cal) (ops : List Oper) (base : Nat) : Nat -> List Oper -> St -> Option St
  | _, [], σ => some σ
  | i, o :: r, σ =>
    match zPq P Γ ops (if zKe o.op then some (base + z7 ops i) else none) o σ with
    | some σ' => zSX P Γ ops base (i + 1) r σ'
    | none => none
def zXN (P : Program) (Γ : FuncId -> Option Cal) (ops : List Oper) (base : Nat) : Nat -> List Oper -> St -> Nat × St
  | i, [], σ => (i, σ)
  | i, o :: r, σ =>
    match zPq P Γ ops (if zKe o.op then some (base + z7 ops i) else none) o σ with
    | some σ' => zXN P Γ ops base (i + 1) r σ'
    | none => (i, σ)
inductive zAW where
  | normal
  | exit (id : Nat)
  | ret
def zUE (f : St -> Option (zAW × St)) : Nat -> St -> Option (zAW × St)
  | 0, _ => none
  | n + 1, σ =>
    match f σ with
    | some (.normal, σ') => zUE f n σ'
    | r => r
def zHh (P : Program) (Γ : FuncId -> Option Cal) : Code -> St -> Option (zAW × St)
  | .skip, σ | .label _, σ => some (.normal, σ)
  | .region _ ops draw, σ =>
    if draw then
      if zCX ops.toList = ops.toList.length then (zU1 P Γ ops.toList ops.toList σ).map fun σ => (.normal, σ)
      else (zSX P Γ ops.toList σ.hp.length 0 ops.toList { σ with hp := σ.hp ++ List.replicate (z7 ops.toList ops.toList.length) .dead }).map fun σ => (.normal, σ)
    else (zU1 P Γ ops.toList ops.toList σ).map fun σ => (.normal, σ)
  | .seq a b, σ =>
    match zHh P Γ a σ with
    | some (.normal, σ') => zHh P Γ b σ'
    | r => r
  | .cond c x y, σ =>
    match σ.eval c with
    | some (.bool (.lit true)) => zHh P Γ x σ
    | some (.bool (.lit false)) => zHh P Γ y σ
    | _ => none
  | .block id c, σ =>
    match zHh P Γ c σ with
    | some (.exit i, σ') => if i = id then some (.normal, σ') else some (.exit i, σ')
    | r => r
  | .loop c, σ => zUE (zHh P Γ c) 100 σ
  | .exit id, σ => some (.exit id, σ)
  | .ret, σ => some (.ret, σ)
  | _, _ => none
def zNg (σ σ' : St) : Prop := zBj σ.tmps σ'.tmps (zAe σ.hp σ'.hp True)
def zDJ (σ : St) : List Oper -> List Nat
  | [] => []
  | o :: r =>
    match o.op with
    | .load _ p =>
      match σ.eval p with
      | some (.ptr ob _) => if (zDJ σ r).contains ob then zDJ σ r else ob :: zDJ σ r
      | _ => zDJ σ r
    | _ => zDJ σ r
mutual
def zXP : SV -> SV -> Bool
  | .int _ (.lit a), .int _ (.lit b) => !decide (a = b)
  | .bool (.lit a), .bool (.lit b) => !(a == b)
  | .agg l, .agg l' => zJt l l'
  | .ptr a b, .ptr a' b' => !(Nat.beq a a' && Nat.beq b b')
  | .slice a b (.lit l) (.lit c), .slice a' b' (.lit l') (.lit c') => !(Nat.beq a a' && Nat.beq b b' && Nat.beq l l' && Nat.beq c c')
  | .sliceG a b l c, .sliceG a' b' l' c' => !(Nat.beq a a' && Nat.beq b b' && Nat.beq l l' && Nat.beq c c')
  | .nils, .nils => false
  | .nils, _ => true
  | _, .nils => true
  | _, _ => false
def zJt : List SV -> List SV -> Bool
  | v :: r, v' :: r' => zXP v v' || zJt r r'
  | _, _ => false
end
def zEE (h h' : List SObj) : List Nat -> List Nat
  | [] => []
  | o :: r =>
    match h[o]?, h'[o]? with
    | some (.cells vs _), some (.cells vs' _) => if zJt vs vs' then zEE h h' r else o :: zEE h h' r
    | _, _ => zEE h h' r
def zC4 (σ : St) : List Oper -> List Nat
  | [] => []
  | o :: r =>
    match o.op with
    | .store _ p _ =>
      match σ.eval p with
      | some (.ptr ob _) => ob :: zC4 σ r
      | _ => zC4 σ r
    | _ => zC4 σ r
def zJH (P : Program) (Γ : FuncId -> Option Cal) (st : List Nat) (h0 : List SObj) (ops : List Oper) (base : Nat) (fq : Nat) (canon : List Bool) (σL : St) : Nat -> Array Bool -> St -> Prop
  | 0, listed, σ => if fq = 0 /\ listed.toList = canon then zNg σ σL else zF 8000001
  | fuel + 1, listed, σ =>
    if fq = fuel + 1 /\ listed.toList = canon then zNg σ σL else
    match Region.ready .any ops.toArray listed with
    | [] => zF 8000002
    | i :: r =>
      match zBV P st ops listed σ (i :: r) with
      | some (j, o, v) => putK σ o.dst v fun σ' => zJH P Γ st h0 ops base fq canon σL fuel (listed.setIfInBounds j true) σ'
      | none => zT9 (i :: r) fun j =>
        match ops[j]? with
        | some o => zP1 P Γ ops base j o σ fun σ' => zFh σ'.hp h0 st (zJH P Γ st h0 ops base fq canon σL fuel (listed.setIfInBounds j true) σ')
        | none => zF 9000000
def zP3 (P : Program) (Γ : FuncId -> Option Cal) (ops : List Oper) (σ : St) (K : St -> Prop) : Prop :=
  zCt (σ.hp ++ List.replicate (z7 ops ops.length) .dead) fun hp =>
    match zXN P Γ ops σ.hp.length 0 ops { σ with hp := hp } with
    | (q, σL) => fSVs σL.tmps fun tL => fHp σL.hp fun hL =>
      let st := zEE hp hL ((zDJ { tmps := tL, hp := hL } ops).filter fun o => !(zC4 { tmps := tL, hp := hL } ops).contains o)
      let canon := List.replicate q true ++ List.replicate (ops.length - q) false
      zLH P Γ st hp ops σ.hp.length (ops.length - q) canon.toArray { tmps := tL, hp := hL } K /\
        zJH P Γ st hp ops σ.hp.length (ops.length - q) canon { tmps := tL, hp := hL } ops.length (Array.replicate ops.length false) { σ with hp := hp }
def zGd (ops : List Oper) (listed : Array Bool) : List Nat -> Option Nat
  | [] => none
  | i :: r =>
    match ops[i]? with
    | some o => if !zOD o.op && !zOn o.op && Region.free .any ops.toArray listed i then some i else zGd ops listed r
    | none => zGd ops listed r
def zMd (ops : List Oper) : Nat -> Array Bool -> Bool
  | 0, _ => true
  | n + 1, listed =>
    match Region.ready .any ops.toArray listed with
    | [] => true
    | i :: r =>
      match zGd ops listed (i :: r) with
      | some j => zMd ops n (listed.setIfInBounds j true)
      | none => match r with
        | [] => zMd ops n (listed.setIfInBounds i true)
        | _ => false
def zPr (P : Program) : List Oper -> St -> St
  | [], σ => σ
  | o :: r, σ => zPr P r (σ.put o.dst (if zOD o.op || zOn o.op then SV.undef else match zHB P σ o.op with | some (_, v) => v | none => SV.undef))
def zM6 (hp : List SObj) (o : Nat) : Bool :=
  match hp[o]? with
  | some (.cells _ _) => true
  | _ => false
def zUH (P : Program) (ops : List Oper) (σ : St) : List Nat :=
  let σ' := zPr P ops σ
  (zDJ σ' ops).filter fun o => !(zC4 σ' ops).contains o && zM6 σ.hp o
mutual
def zUI : SV -> Bool
  | .int _ (.lit _) | .bool (.lit _) | .str _ | .ptr _ _ | .nilp | .nils | .nili | .nilf | .nilm | .mapv _ | .sliceG _ _ _ _ | .gptr _ _ => true
  | .slice _ _ (.lit _) (.lit _) => true
  | .iface _ v => zUI v
  | .agg l | .tuple l => zGP l
  | .func _ a b => zGP a && zGP b
  | _ => false
def zGP : List SV -> Bool
  | [] => true
  | v :: r => zUI v && zGP r
end
def zU8 (P : Program) (ops : List Oper) (σ : St) : Bool :=
  let σ' := zPr P ops σ
  ((zDJ σ' ops).any (fun o => (zC4 σ' ops).contains o) || ops.any fun o => match o.op with | .lookup _ _ _ _ => true | _ => false) && zGP σ.tmps
def zO3 (P : Program) (Γ : FuncId -> Option Cal) (ops : List Oper) (σ : St) : Bool :=
  if ops.any (fun o => zOn o.op) && zGP σ.tmps then
    let hp := σ.hp ++ List.replicate (z7 ops ops.length) .dead
    match zSX P Γ ops σ.hp.length 0 ops { σ with hp := hp } with
    | some σL => (zUH P ops { σ with hp := hp }).any fun o => match hp[o]?, σL.hp[o]? with | some (.cells vs _), some (.cells vs' _) => zJt vs vs' | _, _ => false
    | none => false
  else false
def zU5 (Γ : FuncId -> Option Cal) : Bool := (Γ 999999).isSome
def zP4 (P : Program) (Γ : FuncId -> Option Cal) (ops : List Oper) (σ : St) (K : St -> Prop) : Prop :=
  if Region.noSelect ops.toArray then
    if zMd ops ops.length (Array.replicate ops.length false) && !zU8 P ops σ && !zO3 P Γ ops σ then
      zCt (σ.hp ++ List.replicate (z7 ops ops.length) .dead) fun hp => zCt (zUH P ops { σ with hp := hp }) fun st =>
        zLH P Γ (st.filter fun o => zM6 hp o && !zU5 Γ) hp ops σ.hp.length ops.length (Array.replicate ops.length false) { σ with hp := hp } K
    else
    zCt (σ.hp ++ List.replicate (z7 ops ops.length) .dead) fun hp =>
      match zSX P Γ ops σ.hp.length 0 ops { σ with hp := hp } with
      | some σL => fSVs σL.tmps fun tL => fHp σL.hp fun hL => K { tmps := tL, hp := hL } /\
          zLH P Γ (zEE hp hL ((zDJ { tmps := tL, hp := hL } ops).filter fun o => !(zC4 { tmps := tL, hp := hL } ops).contains o)) hp ops σ.hp.length ops.length (Array.replicate ops.length false) { σ with hp := hp } (fun σ' => zNg σ' { tmps := tL, hp := hL })
      | none => zP3 P Γ ops σ K
  else zF 4000001
def zDj : List Operand -> List Nat
  | [] => []
  | .tmp t :: r => t :: zDj r
  | _ :: r => zDj r
def zF4 (o : Oper) (i : Nat) : Bool := o.after.toList.any fun e => Region.binds .any e && Nat.beq e.on i
def zJb (o : Oper) (s : Nat) : Bool := (zDj o.op.operands.toList).contains s
def zLf (q i j : Nat) (oi oj : Oper) : Bool :=
  zF4 oj i || (Nat.blt j q && (match oi.dst with | some s => !zJb oj s && !(oj.dst == some s) | none => true) && (match oj.dst with | some s => !zJb oi s | none => true))
def zIg (oi oj : Oper) : Bool :=
  match oi.dst with
  | some s => !(oj.dst == some s)
  | none => true
def zA5 : List Oper -> Nat
  | [] => 0
  | o :: r => if o.guard.isNone && (zWM o.op || !zOD o.op) then zA5 r + 1 else 0
def zV4 (ops : List Oper) (q : Nat) : Bool :=
  (List.range ops.length).all (fun j => match ops[j]? with
    | some oj => (List.range j).all (fun i => match ops[i]? with
      | some oi => zLf q i j oi oj && (!Nat.blt j q || zIg oi oj)
      | none => false) && (Nat.blt j q || !zWM oj.op) && oj.after.toList.all (fun e => !Region.binds .any e || Nat.blt e.on j)
    | none => false)
def putT (t : List SV) (d : Option Nat) (v : SV) : List SV :=
  match d with
  | some d => zS t d v
  | none => t
def zDI (P : Program) (Γ : FuncId -> Option Cal) (hp0 : List SObj) (b : Nat) (o : Oper) (t : List SV) : Option (Option BE × SV × Option (List SV × TypeId)) :=
  match o.op with
  | .alloc e => (zBA P e).map fun z => (none, .ptr b 0, some (z.cells, e))
  | .box e x => (St.eval { tmps := t, hp := hp0 } x).map fun v => (none, .ptr b 0, some (v.cells, e))
  | .buildSlice ty len parts =>
    match P.underlying ty, zAi { tmps := t, hp := hp0 } parts.toList with
    | some (.slice e), some l =>
      match P.info? e, zBA P e with
      | some i, some z =>
        if len * i.size <= 1000000 /\ z.cells.length = i.size /\ 0 < len * i.size then
          (zKv (fun j => some (j * i.size, i.size)) ((List.range (len * i.size)).map fun j => z.cells.getD (j % i.size) SV.undef) l).map fun cs => (none, .slice b 0 (.lit len) (.lit len), some (cs, e))
        else none
      | _, _ => none
    | _, _ => none
  | op => (zB7 P Γ { tmps := t, hp := hp0 } op).map fun r => (r.1, r.2, none)
def zJa : Option (List SV × TypeId) -> List SObj
  | some (cs, ty) => [.cells cs ty]
  | none => []
def zN6 (P : Program) (Γ : FuncId -> Option Cal) (hp0 : List SObj) : List Oper -> List SV -> List SObj -> (List SV -> List SObj -> Prop) -> Prop
  | [], t, xs, K => K t xs
  | o :: r, t, xs, K =>
    match zDI P Γ hp0 (hp0.length + xs.length) o t with
    | some (p, v, x) => askP p (fSV v fun v => zCt (putT t o.dst v) fun t => fHp (xs ++ zJa x) fun xs => zN6 P Γ hp0 r t xs K)
    | none => zF 90
def zGX (P : Program) (Γ : FuncId -> Option Cal) (ops : List Oper) (base : Nat) : Nat -> List Oper -> St -> (St -> Prop) -> Prop
  | _, [], σ, K => K σ
  | i, o :: r, σ, K => zJ3 P Γ ops none o σ fun σ' => zGX P Γ ops base (i + 1) r σ' K
def zXT (P : Program) (Γ : FuncId -> Option Cal) (ops : List Oper) (q : Nat) (σ : St) (K : St -> Prop) : Prop :=
  zN6 P Γ σ.hp (ops.take q) σ.tmps [] fun t xs => zCt (σ.hp ++ xs) fun hp => zGX P Γ ops σ.hp.length q (ops.drop q) { tmps := t, hp := hp } K
def zJ6 (P : Program) (Γ : FuncId -> Option Cal) (ops : List Oper) (σ : St) (K : St -> Prop) : Prop :=
  if zV4 ops (zA5 ops) && Region.noSelect ops.toArray && (ops.take (zA5 ops)).all (fun o => zQh P Γ σ o.op) then zXT P Γ ops (zA5 ops) σ K else zP4 P Γ ops σ K
def zP7 (P : Program) (Γ : FuncId -> Option Cal) (ops : List Oper) (σ : St) (K : St -> Prop) : Prop :=
  if P.follows .mixedOrders then
    if zCX ops = ops.length then
      if Region.lexB .any ops.toArray && ops.all (fun o => zQh P Γ σ o.op) then zCM (zB7 P Γ) ops ops σ K else zJ6 P Γ ops σ K
    else if Region.lexTailB .any ops.toArray (zCX ops) && (ops.take (zCX ops)).all (fun o => !zOn o.op) then
      zCM (zHB P) ops (ops.take (zCX ops)) σ fun σ' => zHC P Γ ops (ops.drop (zCX ops)) σ' K
    else zJ6 P Γ ops σ K
  else zF 6000000
def zFZ (next : St -> Prop) (K : zAW -> St -> Prop) : zAW -> St -> Prop
  | .normal, σ => next σ
  | e, σ => K e σ
def zKp (id : Nat) (K : zAW -> St -> Prop) : zAW -> St -> Prop
  | .exit i, σ => if i = id then K .normal σ else K (.exit i) σ
  | e, σ => K e σ
mutual
def zYr : SV -> List Nat -> List Nat
  | .ptr o _, l | .slice o _ _ _, l | .ptrE _ o _ _ _, l | .sliceE _ o _ _ _ _, l | .mapv o, l | .sliceG o _ _ _, l => if l.contains o then l else o :: l
  | .iface _ v, l => zYr v l
  | .agg vs, l | .tuple vs, l => zEO vs l
  | .func _ a b, l => zEO b (zEO a l)
  | _, l => l
def zEO : List SV -> List Nat -> List Nat
  | [], l => l
  | v :: r, l => zEO r (zYr v l)
end
def zIU (hp : List SObj) : List Nat -> List Nat -> List Nat
  | [], l => l
  | o :: r, l =>
    match hp[o]? with
    | some (.cells vs _) => zIU hp r (zEO vs l)
    | some (.map ks vs) => zIU hp r (zEO vs (zEO ks l))
    | some (.grown _ vs) => zIU hp r (zEO vs l)
    | _ => zIU hp r l
def zTD (hp : List SObj) : Nat -> List Nat -> List Nat
  | 0, l => l
  | n + 1, l =>
    let l' := zIU hp l l
    if l'.length = l.length then l else zTD hp n l'
def zD4 (n0 : Nat) (keep : List Nat) : Nat -> List SObj -> List SObj
  | _, [] => []
  | i, x :: r => (if i < n0 then x else if keep.contains i then x else .dead) :: zD4 n0 keep (i + 1) r
def zWD (hp : List SObj) (o : Nat) : Bool :=
  match hp[o]? with
  | some x => x.alive
  | _ => false
mutual
def okSV (hp : List SObj) : SV -> Bool
  | .ptr o _ | .slice o _ _ _ | .ptrE _ o _ _ _ | .sliceE _ o _ _ _ _ | .mapv o | .sliceG o _ _ _ => zWD hp o
  | .iface _ v => okSV hp v
  | .agg vs | .tuple vs => zEw hp vs
  | .func _ a b => zEw hp a && zEw hp b
  | _ => true
def zEw (hp : List SObj) : List SV -> Bool
  | [] => true
  | v :: r => okSV hp v && zEw hp r
end
def zYS (hp : List SObj) : SObj -> Bool
  | .cells vs _ => zEw hp vs
  | .map ks vs => zEw hp ks && zEw hp vs
  | .grown _ vs => zEw hp vs
  | _ => true
def gcK (n0 : Nat) (σ : St) (K : St -> Prop) : Prop :=
  zCt (zD4 n0 (zTD σ.hp 6 (zEO σ.tmps [])) 0 σ.hp) fun hp =>
    if zEw hp σ.tmps && hp.all (zYS hp) then K { σ with hp := hp } else K σ
def zWA (n0 : Nat) (f : St -> (zAW -> St -> Prop) -> Prop) (K : zAW -> St -> Prop) : Nat -> St -> Prop
  | 0, _ => zF 2000000
  | n + 1, σ => gcK n0 σ fun σ => f σ (zFZ (zWA n0 f K n) K)
def zV9 (f : St -> (zAW -> St -> Prop) -> Prop) (K : zAW -> St -> Prop) : Nat -> St -> Prop
  | 0, _ => zF 2000001
  | n + 1, σ => f σ (zFZ (zV9 f K n) K)
def zFy (live : List Nat) (u : Nat -> Value) : Nat -> List SV -> List SV
  | _, [] => []
  | i, v :: r => (if live.contains i then v else .val (u i)) :: zFy live u (i + 1) r
def zDQ (n0 : Nat) : Nat -> List SObj -> List SObj
  | _, [] => []
  | i, x :: r =>
    match zDQ n0 (i + 1) r with
    | [] => if i < n0 then [x] else match x with
      | .dead => []
      | .cells vs ty => [.cells vs ty]
      | .row own inp cols n => [.row own inp cols n]
      | .husk => [.husk]
      | .map ks vs => [.map ks vs]
      | .grown sz vs => [.grown sz vs]
      | .glob g vs => [.glob g vs]
    | y :: l => x :: y :: l
def zEx (n0 : Nat) (live : List Nat) (σ : St) (K : St -> Prop) : Prop :=
  ∀ u : Nat -> Value, zCt (zFy live u 0 σ.tmps) fun t => gcK n0 { σ with tmps := t } fun σ => zCt (zDQ n0 0 σ.hp) fun hp => K { σ with hp := hp }
def zYd (n0 : Nat) (f : St -> (zAW -> St -> Prop) -> Prop) (K : zAW -> St -> Prop) (σ : St) : Prop :=
  ∃ (live : List Nat) (I : St -> Prop) (μ : St -> Nat), zEx n0 live σ I /\ ∀ σ', I σ' -> f σ' (zFZ (fun σ'' => zEx n0 live σ'' fun σ3 => I σ3 /\ μ σ3 < μ σ') K)
structure Link where
  key : Nat
  old : Option Nat
  conv : Bool
def zAj : List Link -> Nat -> Option Link
  | [], _ => none
  | l :: r, k => if l.key = k then some l else zAj r k
def zLq (m : List Link) (k : Nat) (o : Option Nat) (conv : Bool) (K : List Link -> Prop) : Prop :=
  match zAj m k with
  | some l => if l.old = o /\ l.conv = conv then K m else zF 50
  | none =>
    match o with
    | none => K (⟨k, none, false⟩ :: m)
    | some o => if m.all (fun l => l.old != some o) then K (⟨k, some o, conv⟩ :: m) else zF 51
def eqIE (a b : IE) (R : Prop) : Prop :=
  match a, b with
  | .lit x, .lit y => if x = y then R else zF 52
  | a, b => a.den = b.den /\ R
def eqNE (a b : NE) (R : Prop) : Prop :=
  match a, b with
  | .lit x, .lit y => if x = y then R else zF 53
  | a, b => a.den = b.den /\ R
def eqBE (a b : BE) (R : Prop) : Prop :=
  match a, b with
  | .lit x, .lit y => if x = y then R else zF 54
  | a, b => a.den = b.den /\ R
def zJn (inp inp' : Bool) : Option Bool :=
  match inp, inp' with
  | false, true => some true
  | true, false => none
  | _, _ => some false
mutual
def zB1 : SV -> SV -> List Link -> (List Link -> Prop) -> Prop
  | .int k a, .int k' b, m, K => if k = k' then eqIE a b (K m) else zF 55
  | .bool a, .bool b, m, K => eqBE a b (K m)
  | .str a, .str b, m, K | .strE a, .strE b, m, K | .str a, .strE b, m, K => a = b /\ K m
  | .ptr o off, .ptr o' off', m, K => if off = off' then zLq m o' (some o) false K else zF 56
  | .slice o off l c, .slice o' off' l' c', m, K => if off = off' then zLq m o' (some o) false fun m => eqNE l l' (eqNE c c' (K m)) else zF 57
  | .nilp, .nilp, m, K | .nils, .nils, m, K | .nili, .nili, m, K | .nilf, .nilf, m, K | .nilm, .nilm, m, K => K m
  | .iface t v, .iface t' v', m, K => if t = t' then zB1 v v' m K else zF 58
  | .agg l, .agg l', m, K | .tuple l, .tuple l', m, K => zGm l l' m K
  | .func fn a b, .func fn' a' b', m, K => if fn = fn' then zGm a a' m fun m => zGm b b' m K else zF 59
  | .val a, .val b, m, K => a = b /\ K m
  | .ptrE inp o sz i c, .ptrE inp' o' sz' i' c', m, K =>
    match zJn inp inp' with
    | some cv => if sz = sz' /\ c = c' then zLq m o' (some o) cv fun m => eqNE i i' (K m) else zF 60
    | none => zF 61
  | .sliceE inp o sz st l c, .sliceE inp' o' sz' st' l' c', m, K =>
    match zJn inp inp' with
    | some cv => if sz = sz' then zLq m o' (some o) cv fun m => eqNE st st' (eqNE l l' (eqNE c c' (K m))) else zF 62
    | none => zF 63
  | .nils, .sliceE true o' _ st' l' c', m, K => zLq m o' none false fun m => l'.den = 0 /\ c'.den = 0 /\ K m
  | .slice o off l c, .sliceE inp' o' sz' st' l' c', m, K => if 0 < sz' /\ off % sz' = 0 then zLq m o' (some o) inp' fun m => eqNE (.lit (off / sz')) st' (eqNE l l' (eqNE c c' (K m))) else zF 64
  | _, _, _, _ => zF 65
def zGm : List SV -> List SV -> List Link -> (List Link -> Prop) -> Prop
  | [], [], m, K => K m
  | v :: r, v' :: r', m, K => zB1 v v' m fun m => zGm r r' m K
  | _, _, _, _ => zF 66
end
def zQL (c c' : Col) (n : Nat) (R : Prop) : Prop :=
  match c, c' with
  | .int k g, .int k' g' => if k = k' then (∀ e, e < n -> (g e).den = (g' e).den) /\ R else zF 67
  | .bool g, .bool g' => (∀ e, e < n -> (g e).den = (g' e).den) /\ R
  | .val g, .val g' => (∀ e, e < n -> g e = g' e) /\ R
  | .str g, .str g' => (∀ e, e < n -> g e = g' e) /\ R
  | _, .dark => R
  | _, _ => zF 68
def zGO (n : Nat) (R : Prop) : List Col -> List Col -> Prop
  | [], [] => R
  | c :: r, c' :: r' => zQL c c' n (zGO n R r r')
  | _, _ => zF 69
def zQK (hp hp' : List SObj) (l : Link) (m : List Link) (K : List Link -> Prop) : Prop :=
  match l.old, hp'[l.key]? with
  | none, some (.row true true _ n') => n'.den = 0 /\ K m
  | some o, some (.cells vs' ty') =>
    match hp[o]? with
    | some (.cells vs ty) => if ty = ty' /\ l.conv = false then zGm vs vs' m K else zF 70
    | _ => zF 71
  | some o, some (.row own' inp' cols' n') =>
    match hp[o]? with
    | some (.row own inp cols n) => if own = own' /\ zJn inp inp' = some l.conv then eqNE n n' (zGO n'.den (K m) cols cols') else zF 72
    | some x =>
      match zAB cols'.length x with
      | some (false, cols, n) => if own' = true /\ l.conv = inp' then eqNE n n' (zGO n'.den (K m) cols cols') else zF 73
      | _ => zF 74
    | _ => zF 75
  | some o, some (.glob g' vs') =>
    match hp[o]? with
    | some (.glob g vs) => if g = g' /\ l.conv = false then vs = vs' /\ K m else zF 83
    | _ => zF 84
  | _, _ => zF 76
def zKH (hp hp' : List SObj) : Nat -> Nat -> List Link -> (List Link -> Prop) -> Prop
  | 0, _, _, _ => zF 77
  | fuel + 1, i, m, K =>
    match m.reverse[i]? with
    | some l => zQK hp hp' l m fun m => zKH hp hp' fuel (i + 1) m K
    | none => K m
def zBH (n0 : Nat) : Nat -> List SObj -> List Link
  | _, [] => []
  | i, x :: r => if i < n0 /\ x.alive = true then ⟨i, some i, false⟩ :: zBH n0 (i + 1) r else zBH n0 (i + 1) r
def zHO (tmps : List SV) : List (Nat × SV) -> List Link -> (List Link -> Prop) -> Prop
  | [], m, K => K m
  | (i, v') :: r, m, K =>
    match tmps[i]? with
    | some v => zB1 v v' m fun m => zHO tmps r m K
    | none => zF 78
def zGC (m : List Link) : Nat -> List SObj -> Bool
  | _, [] => true
  | i, x :: r => (!x.alive || (zAj m i).isSome) && zGC m (i + 1) r
def zA8 (n0 L : Nat) (σ : St) (slots : List (Nat × SV)) (hp' : List SObj) : Prop :=
  if σ.tmps.length = L then
    zHO σ.tmps slots (zBH n0 0 σ.hp) fun m => zKH σ.hp hp' 40 0 m fun m => if zGC m 0 hp' = true then True else zF 79
  else zF 80
def zEF : List (Nat × SV) -> Nat -> Option SV
  | [], _ => none
  | (i, v) :: r, k => if i = k then some v else zEF r k
def zF0 (slots : List (Nat × SV)) (u : Nat -> Value) : Nat -> Nat -> List SV
  | _, 0 => []
  | i, n + 1 => (match zEF slots i with | some v => v | none => .val (u i)) :: zF0 slots u (i + 1) n
def zYe (n0 : Nat) (f : St -> (zAW -> St -> Prop) -> Prop) (K : zAW -> St -> Prop) (σ : St) : Prop :=
  ∃ (α : Type) (slots : α -> List (Nat × SV)) (hp : α -> List SObj) (inv : α -> Prop) (μ : α -> Nat), (∃ a, inv a /\ zA8 n0 σ.tmps.length σ (slots a) (hp a)) /\
    ∀ (u : Nat -> Value) (a : α), inv a -> f { tmps := zF0 (slots a) u 0 σ.tmps.length, hp := hp a } (zFZ (fun σ' => ∃ a', inv a' /\ μ a' < μ a /\ zA8 n0 σ.tmps.length σ' (slots a') (hp a')) K)
structure Ann where
  α : Type
  slots : α -> List (Nat × SV)
  hp : α -> List SObj
  inv : α -> Prop
  μ : α -> Nat
  exit : Nat
  β : Type
  slotsX : β -> List (Nat × SV)
  hpX : β -> List SObj
  invX : β -> Prop
inductive Plan where
  | rounds (n : Nat)
  | said (A : Ann)
  | plain (n : Nat)
  | told (A : Ann)
  | pick (f : List SV -> Ann)
  | first (f : List SV -> Ann)
instance (n : Nat) : OfNat Plan n := ⟨.rounds n⟩
def zD7 (n0 L : Nat) (A : Ann) (K : zAW -> St -> Prop) (a : A.α) : zAW -> St -> Prop
  | .normal, σ' => ∃ a', A.inv a' /\ A.μ a' < A.μ a /\ zA8 n0 L σ' (A.slots a') (A.hp a')
  | .exit id, σ' => if id = A.exit then ∃ b, A.invX b /\ zA8 n0 L σ' (A.slotsX b) (A.hpX b) else K (.exit id) σ'
  | .ret, σ' => K .ret σ'
def zTT (n0 : Nat) (A : Ann) (f : St -> (zAW -> St -> Prop) -> Prop) (K : zAW -> St -> Prop) (σ : St) : Prop :=
  (∃ a, A.inv a /\ zA8 n0 σ.tmps.length σ (A.slots a) (A.hp a)) /\
  (∀ (u : Nat -> Value) (a : A.α), A.inv a -> f { tmps := zF0 (A.slots a) u 0 σ.tmps.length, hp := A.hp a } (zD7 n0 σ.tmps.length A K a)) /\
  (∀ (u : Nat -> Value) (b : A.β), A.invX b -> K (.exit A.exit) { tmps := zF0 (A.slotsX b) u 0 σ.tmps.length, hp := A.hpX b })
def zWC (n0 : Nat) (A : Ann) (f : St -> (zAW -> St -> Prop) -> Prop) (K : zAW -> St -> Prop) (σ : St) : Prop :=
  ∃ (inv : A.α -> Prop) (μ : A.α -> Nat), zTT n0 ⟨A.α, A.slots, A.hp, inv, μ, A.exit, A.β, A.slotsX, A.hpX, A.invX⟩ f K σ
def zWB (n0 : Nat) (A : Ann) (f : St -> (zAW -> St -> Prop) -> Prop) (K : zAW -> St -> Prop) (σ : St) : Prop :=
  match A with
  | ⟨α, slots, hp, inv, μ, exit, β, slotsX, hpX, invX⟩ => zWC n0 ⟨α, slots, hp, inv, μ, exit, β, slotsX, hpX, invX⟩ f K σ
def zAP (P : Program) (Γ : FuncId -> Option Cal) (un : Nat -> Plan) (n0 : Nat) : Code -> Nat -> St -> (zAW -> St -> Prop) -> Prop
  | .skip, _, σ, K => K .normal σ
  | .label _, _, σ, K => K .normal σ
  | .region _ ops draw, _, σ, K => if draw then zP7 P Γ ops.toList σ (K .normal) else zHC P Γ ops.toList ops.toList σ (K .normal)
  | .seq a b, bid, σ, K => zAP P Γ un n0 a bid σ (zFZ (fun σ' => zAP P Γ un n0 b bid σ' K) K)
  | .cond c x y, bid, σ, K =>
    match σ.eval c with
    | some (.bool e) => WayO Γ (zXQ c) e (zAP P Γ un n0 x bid (σ.told c true) K) (zAP P Γ un n0 y bid (σ.told c false) K)
    | _ => False
  | .block id c, _, σ, K => zAP P Γ un n0 c id σ (zKp id K)
  | .loop c, bid, σ, K =>
    match un bid with
    | .said A => zTT n0 A (fun σ' K' => zAP P Γ un n0 c bid σ' K') K σ
    | .told A => zWC n0 A (fun σ' K' => zAP P Γ un n0 c bid σ' K') K σ
    | .pick f => zWB n0 (f σ.tmps) (fun σ' K' => zAP P Γ un n0 c bid σ' K') K σ
    | .first f => zAP P Γ un n0 c bid σ (zFZ (fun σ' => zWB n0 (f σ'.tmps) (fun σ' K' => zAP P Γ un n0 c bid σ' K') K σ') K)
    | .plain n => zV9 (fun σ' K' => zAP P Γ un n0 c bid σ' K') K n σ
    | .rounds n =>
      if n = 1000000 then zYe n0 (fun σ' K' => zAP P Γ un n0 c bid σ' K') K σ
      else match n with
      | 0 => zYd n0 (fun σ' K' => zAP P Γ un n0 c bid σ' K') K σ
      | n + 1 => zWA n0 (fun σ' K' => zAP P Γ un n0 c bid σ' K') K (n + 1) σ
  | .exit id, _, σ, K => K (.exit id) σ
  | .ret, _, σ, K => K .ret σ
  | .scope c, bid, σ, K => zAP P Γ un n0 c bid σ K
  | _, _, _, _ => zF 3000000
def zFd (P : Program) (σ : St) : ResultVar -> Option SV
  | .tmp t => σ.tmps[t]?
  | .cell a t =>
    match σ.tmps[a]? with
    | some (.ptr o off) => zLp P σ.hp t o off
    | _ => none
def zBh (P : Program) (σ : St) : List ResultVar -> Option (List SV)
  | [] => some []
  | r :: rest =>
    match zFd P σ r, zBh P σ rest with
    | some v, some l => some (v :: l)
    | _, _ => none
def zD1 : List SV -> SV
  | [v] => v
  | l => .tuple l
def zH (P : Program) (Γ : FuncId -> Option Cal) (un : Nat -> Plan) (fn : Func) : zl := fun args hp K =>
  match fn.body with
  | some c => zCt (args ++ List.replicate (fn.ntmps - args.length) SV.undef) fun t => zAP P Γ un hp.length c 0 { tmps := t, hp := hp } fun e σ =>
    match e with
    | .exit _ => False
    | _ => match zBh P σ fn.results.toList with
      | some vs => K (zD1 vs) σ.hp
      | none => False
  | none => False
def zUF (P : Program) (Γ : FuncId -> Option Cal) (fn : Func) : zEz := fun args hp =>
  match fn.body with
  | some c =>
    match zHh P Γ c { tmps := args ++ List.replicate (fn.ntmps - args.length) SV.undef, hp := hp } with
    | some (_, σ) => (zBh P σ fn.results.toList).map fun vs => (zD1 vs, σ.hp)
    | none => none
  | none => none
def inl (P : Program) (un : FuncId -> Nat -> Plan) (T : FuncId -> Option Cal) : Nat -> FuncId -> Option Cal
  | 0, _ => none
  | d + 1, g =>
    match T g with
    | some s => some s
    | none => match P.funcs[g]? with
      | some fn => some (.spec (zH P (inl P un T d) (un g) fn) (zUF P (inl P un T d) fn))
      | none => none
def zx : List (FuncId × Cal) -> FuncId -> Option Cal
  | [], _ => none
  | (f, s) :: r, g => if g = f then some s else zx r g
end
end Go.Proofs.YtajcmjjgnbaahaaGreat.Sx
