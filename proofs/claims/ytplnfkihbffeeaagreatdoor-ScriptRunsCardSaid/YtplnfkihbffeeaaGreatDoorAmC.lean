/- From the loaded operations and code to those of the machine of our own. -/
import Derived.Test.YtplnfkihbffeeaaGreatDoorAmB
namespace Go.Am

def opd : Operand → Opd
  | .tmp t => .t t
  | .const v => .c v
  | .global g => .c (.pointer (some ⟨g, 0, none⟩))
  | .func f => .c (.func (.func f) #[] #[])

/-- Constants of one cell that stand for themselves, wherever blocks lie. -/
def still1 : Value → Bool
  | .pointer a => a.isNone
  | .slice a n c => a.isNone && (Nat.blt c U && Nat.ble n c)
  | .nilFunc => true
  | .nilIface => true
  | .map a => a.isNone
  | .chan a => a.isNone
  | .float _ _ => true
  | v => scalar v

def still : Value → Bool
  | .func (.func _) a b => a.toList.isEmpty && b.toList.isEmpty
  | .tuple a => a.toList.isEmpty
  | .agg cs => cs.toList.all still1
  | v => still1 v

/-- An operand that may stand: of so many slots, so many variables. -/
def opOk (n : Nat) (G : Cfg) : Operand → Bool
  | .tmp t => Nat.blt t n
  | .const v => still v
  | .global g => Nat.blt g G.n
  | .func _ => true

def isAggD : TypeDesc → Bool
  | .struct _ => true
  | .array _ _ => true
  | _ => false

def isIntD : TypeDesc → Bool
  | .int _ => true
  | _ => false

def sizeP (P : Program) (t : TypeId) : Option Nat := (P.info? t).map (·.size)

def zeroP (P : Program) (t : TypeId) : Option (List Value) := do
  let i ← P.info? t
  let z ← i.zero
  if (cellsOf z).all still ∧ (cellsOf z).length = i.size then some (cellsOf z) else none

def parts (f : Nat → Option (Nat × Nat)) : List (Nat × Operand) → Option (List (Nat × Nat × Opd))
  | [] => some []
  | (i, x) :: r => do
    let (o, z) ← f i
    let l ← parts f r
    some ((o, z, opd x) :: l)

def fieldP (P : Program) (fs : Array Field) (i : Nat) : Option (Nat × Nat) := do
  let f ← fs[i]?
  let z ← sizeP P f.type
  some (f.offset, z)

def sliceElem (P : Program) (t : TypeId) : Option (TypeId × TypeInfo) := do
  match ← P.underlying t with
  | .slice e => let i ← P.info? e; some (e, i)
  | _ => none

def compCall (P : Program) (c : Call) : Option AOp :=
  match c.callee with
  | .value (.func f) => some (.call f (c.args.toList.map opd))
  | .value (.tmp t) => some (.callv (.t t) (c.args.toList.map opd))
  | .builtin .len => do
    let t ← c.argTypes.toList[0]?
    let x ← c.args.toList[0]?
    match ← P.underlying t with
    | .string => some (.lenStr (opd x))
    | .slice _ => some (.lenRow (opd x))
    | .array n _ => some (.lenArr n)
    | _ => none
  | .builtin .append => do
    match c.argTypes.toList, c.args.toList with
    | [t, u], [s, x] =>
      let (e, i) ← sliceElem P t
      let z ← zeroP P e
      match ← P.underlying u with
      | .slice _ => some (.append (opd s) (opd x) e z i.bytes)
      | .string => some (.append (opd s) (opd x) e z i.bytes)
      | _ => none
    | _, _ => none
  | .builtin .copy => do
    match c.argTypes.toList, c.args.toList with
    | t :: _, [d, x] =>
      let (_, i) ← sliceElem P t
      some (.copy (opd d) (opd x) i.size)
    | _, _ => none
  | _ => none

def isTC : Operand → Bool
  | .tmp _ => true
  | .const _ => true
  | _ => false

def plainOf (o : Oper) (l : List Operand) : Option AOp := if l.all isTC then some (.plain o (l.map opd)) else none

/-- Of the operations, those that are as old as this machine. -/
def comp0 (P : Program) (o : Oper) : Option AOp :=
  match o.op with
  | .move x => some (.mov (opd x))
  | .assign x => some (.mov (opd x))
  | .pick c a b => some (.pick (opd c) (opd a) (opd b))
  | .alloc t => do let z ← zeroP P t; some (.alloc t z)
  | .box t x => some (.box t (opd x))
  | .build t ps => do
    let z ← zeroP P t
    match ← P.underlying t with
    | .struct fs => if fs.toList.all (fun f => (P.info? f.type).isSome) then (parts (fieldP P fs) ps.toList).map (.build z) else none
    | .array _ e => do let n ← sizeP P e; (parts (fun i => some (i * n, n)) ps.toList).map (.build z)
    | _ => none
  | .buildSlice t len ps => do
    let (e, i) ← sliceElem P t
    let z ← zeroP P e
    if 0 < i.size ∧ len * i.size ≤ 16777216 then (parts (fun k => some (k * i.size, i.size)) ps.toList).map (.mkRow e len z) else none
  | .load t a => do
    match isAggD (← P.underlying t) with
    | true => let n ← sizeP P t; some (.loadN (opd a) n)
    | false => some (.load1 (opd a))
  | .store t a x => do let n ← sizeP P t; some (.store (opd a) (opd x) n)
  | .nilCheck x => some (.nilCheck (opd x))
  | .binOp op t x y _ => do
    match ← P.underlying t, op, x, y with
    | .int _, .and, _, _ => plainOf o [x, y]
    | .int _, .or, _, _ => plainOf o [x, y]
    | .int _, .xor, _, _ => plainOf o [x, y]
    | .int _, .andNot, _, _ => plainOf o [x, y]
    | .int _, _, _, _ => some (.arith op (opd x) (opd y))
    | .pointer _, .eql, _, _ => some (.nilP false (opd x) (opd y))
    | .pointer _, .neq, _, _ => some (.nilP true (opd x) (opd y))
    | .slice _, .eql, _, _ => some (.nilS false (opd x) (opd y))
    | .slice _, .neq, _, _ => some (.nilS true (opd x) (opd y))
    | _, _, _, _ => plainOf o [x, y]
  | .unOp _ _ x => plainOf o [x]
  | .convert _ _ x => plainOf o [x]
  | .field t x i => do
    match ← P.underlying t with
    | .struct fs => do
      let f ← fs[i]?
      match isAggD (← P.underlying f.type) with
      | true => let n ← sizeP P f.type; some (.fieldN (opd x) f.offset n)
      | false => some (.field1 (opd x) f.offset)
    | _ => none
  | .fieldAddr t x i => do
    match ← P.underlying t with
    | .struct fs => do
      let f ← fs[i]?
      let n ← sizeP P f.type
      if 0 < n then some (.fieldAddr (opd x) f.offset) else none
    | _ => none
  | .indexAddr t x i => do
    match ← P.underlying t with
    | .array n e => do let z ← sizeP P e; some (.indexArr (opd x) (opd i) n z)
    | .slice e => do let z ← sizeP P e; some (.indexRow (opd x) (opd i) z)
    | _ => none
  | .index t x i => do
    match ← P.underlying t with
    | .array n e => do
      let z ← sizeP P e
      match isAggD (← P.underlying e) with
      | true => some (.indexN (opd x) (opd i) n z)
      | false => if z = 1 then some (.index1 (opd x) (opd i) n) else none
    | .string => some (.indexStr (opd x) (opd i))
    | _ => none
  | .slice t x lo hi mx => do
    match ← P.underlying t with
    | .string => if mx.isNone then some (.sliceStr (opd x) (lo.map opd) (hi.map opd)) else none
    | .array n e => do let z ← sizeP P e; if n < U then some (.sliceArr (opd x) (lo.map opd) (hi.map opd) (mx.map opd) n z) else none
    | .slice e => do let z ← sizeP P e; some (.slice (opd x) (lo.map opd) (hi.map opd) (mx.map opd) z)
    | _ => none
  | .makeSlice t l c => do
    let (e, i) ← sliceElem P t
    let z ← zeroP P e
    if 0 < i.size then some (.makeSlice (opd l) (opd c) e z i.bytes) else none
  | .extract x i => some (.extract (opd x) i)
  | .makeFunc (.func f) first captured => some (.makeFunc f (first.toList.map opd) (captured.toList.map opd))
  | .call c => match c.callee with
    | .builtin .min => plainOf o c.args.toList
    | .builtin .max => plainOf o c.args.toList
    | _ => compCall P c
  | _ => none

/-- Functions without a body that the machine knows. -/
def compExt (P : Program) (f : FuncId) (args : List Operand) : Option AOp := do
  let fn ← P.funcs[f]?
  if fn.body.isNone && fn.origin == "" then
    match args with
    | [x] =>
      if fn.name == "internal/abi.NoEscape" then some (.mov (opd x))
      else if fn.name == "internal/bytealg.MakeNoZero" then do
        let t ← fn.resultTypes.toList[0]?
        match ← P.underlying t with
        | .slice e => if fn.resultTypes.toList.length = 1 then some (.xa (.noZero (opd x) e)) else none
        | _ => none
      else none
    | [x, c] =>
      if fn.name == "internal/bytealg.IndexByteString" then some (.xp (.index (opd x) (opd c)))
      else if fn.name == "internal/bytealg.CountString" then some (.xp (.count (opd x) (opd c)))
      else none
    | _ => none
  else none

def isTmp : Operand → Bool
  | .tmp _ => true
  | _ => false

/-- The younger ones. -/
def compX (P : Program) (o : Oper) : Option AOp :=
  match o.op with
  | .makeInterface t x => do
    match ← P.underlying t with
    | .interface _ => none
    | _ => some (.xp (.iface t (opd x)))
  | .typeAssert x _ t true => do
    match ← P.underlying t with
    | .interface _ => none
    | _ =>
      let i ← P.info? t
      let z ← i.zero
      if still z then some (.xp (.assert (opd x) t z)) else none
  | .range t x => do
    match ← P.underlying t with
    | .string => some (.xa (.range (opd x)))
    | _ => none
  | .next it true => some (.xa (.next (opd it)))
  | .makeMap _ none => some (.xa .newMap)
  | .binOp op t x y _ => do
    match ← P.underlying t with
    | .pointer el =>
      let n ← sizeP P el
      if 0 < n && isTmp x && isTmp y then
        match op with
        | .eql => some (.xp (.ptrEq false (opd x) (opd y)))
        | .neq => some (.xp (.ptrEq true (opd x) (opd y)))
        | _ => none
      else none
    | _ => none
  | .convert src dst x => do
    match ← P.underlying src with
    | .pointer t => match ← P.underlying dst with
      | .unsafePointer => do
        let n ← sizeP P t
        if 0 < n then some (.xa (.toU (opd x))) else none
      | _ => none
    | .unsafePointer => match ← P.underlying dst with
      | .pointer u => do
        let _ ← P.info? u
        some (.xa (.fromU (opd x) u))
      | _ => none
    | _ => none
  | .call c => match c.callee with
    | .builtin .cap => do
      let t ← c.argTypes.toList[0]?
      let x ← c.args.toList[0]?
      match ← P.underlying t with
      | .slice _ => some (.xp (.cap (opd x)))
      | _ => none
    | .builtin .unsafeSliceData => match c.args.toList with
      | [x] => some (.xp (.data (opd x)))
      | _ => none
    | .builtin .unsafeString => match c.args.toList, c.argTypes.toList with
      | [p, n], [pt, _] => do
        match ← P.underlying pt with
        | .pointer el => if P.cellsOf el = 1 then some (.xa (.str (opd p) (opd n) el)) else none
        | _ => none
      | _, _ => none
    | .value (.func f) => compExt P f c.args.toList
    | .invoke recv name => some (.xa (.invoke (opd recv) name (c.args.toList.map opd)))
    | _ => none
  | _ => none

/-- An operation, without its guard. -/
def compOp (P : Program) (o : Oper) : Option AOp :=
  match compX P o with
  | some a => some a
  | none => match comp0 P o with
    | some a => some a
    | none => some (.xp .bad)

/-- The slot in which a guard's operation leaves its answer. -/
def guardOf (ops : Array Oper) : Option (Nat × Bool) → Option (Option (Nat × Bool))
  | none => some none
  | some (j, w) => do
    let o ← ops[j]?
    let d ← o.dst
    some (some (d, w))

def dstOk (n : Nat) : Option Tmp → Bool
  | some d => Nat.blt d n
  | none => true
def gOk (n : Nat) : Option (Nat × Bool) → Bool
  | some p => Nat.blt p.1 n
  | none => true

def compOper (P : Program) (n : Nat) (G : Cfg) (ops : Array Oper) (o : Oper) : Option AOper := do
  let a ← compOp P o
  let g ← guardOf ops o.guard
  if o.op.operands.toList.all (opOk n G) && dstOk n o.dst && gOk n g then
    some { dst := o.dst, guard := g, op := a } else none

def compOps (P : Program) (n : Nat) (G : Cfg) (ops : Array Oper) : List Oper → Option (List AOper)
  | [] => some []
  | o :: r => do
    let a ← compOper P n G ops o
    let l ← compOps P n G ops r
    some (a :: l)

/-- Numbers of the operations that stand ahead of an operation, by its own edges. -/
def edges (o : Oper) : List Nat := (o.after.toList.filter (Region.binds .any)).map (·.on)

def mask (acc : List Nat) : List Nat → Nat → Nat
  | [], s => s
  | j :: r, s => mask acc r (s ||| 2 ^ j ||| acc.getD j 0)

/-- Of each operation, all that stand ahead of it, as a number's bits. -/
def aheads : List Oper → List Nat → List Nat
  | [], acc => acc
  | o :: r, acc => aheads r (acc ++ [mask acc (edges o) 0])

/-- Two operations that stand in no order: neither looks at what the other writes, and not both act. -/
def freeOf (ops : Array Oper) (a b : Oper) (x y : AOper) : Bool :=
  Oper.apart ops a b && !(match x.op.cls, y.op.cls with | Cls.act, Cls.act => true | _, _ => false)

def pairsOk (ops : Array Oper) (ah : List Nat) (al : List AOper) : Bool :=
  (List.range ops.size).all fun j => (List.range j).all fun i =>
    (ah.getD j 0).testBit i || match ops[i]?, ops[j]?, al[i]?, al[j]? with
      | some a, some b, some x, some y => freeOf ops a b x y
      | _, _, _, _ => false

def isAct (x : Option AOper) : Bool :=
  match x with
  | some x => match x.op.cls with | .act => true | _ => false
  | none => false

def unOf (ops : Array Oper) (ah : List Nat) (al : List AOper) : List (List Nat) :=
  (List.range ops.size).map fun i => (List.range ops.size).filter fun j =>
    isAct al[j]? && !(Nat.beq i j) && !(ah.getD i 0).testBit j && !(ah.getD j 0).testBit i

def compC (P : Program) (n : Nat) (G : Cfg) : Code → Option ACode
  | .skip => some .skip
  | .ret => some .ret
  | .exit id => some (.exit id)
  | .seq a b => do some (.seq (← compC P n G a) (← compC P n G b))
  | .cond c a b => do if opOk n G c then some (.cond (opd c) (← compC P n G a) (← compC P n G b)) else none
  | .block id a => do some (.block id (← compC P n G a))
  | .loop a => do some (.loop (← compC P n G a))
  | .region _ ops false => (compOps P n G ops ops.toList).map .region
  | .region _ ops true => do
    let al ← compOps P n G ops ops.toList
    let ah := aheads ops.toList []
    if ops.toList.zipIdx.all (fun (o, j) => (edges o).all (Nat.blt · j)) && pairsOk ops ah al then some (.draw al (unOf ops ah al)) else none
  | .rangeFunc f ps assign body => do
    let a ← compC P n G assign
    let b ← compC P n G body
    match ps.toList with
    | [pi, px] => if opOk n G f && Nat.blt pi n && Nat.blt px n && a.noBack && b.noBack && !Nat.beq pi px then some (.back G.backs (opd f) pi px a b) else some .bad
    | _ => some .bad
  | _ => some .bad

def resTmps (P : Program) : List ResultVar → Option (List RV)
  | [] => some []
  | .tmp t :: r => do some (.slot t :: (← resTmps P r))
  | .cell a t :: r => do
    match isAggD (← P.underlying t) with
    | true => let n ← sizeP P t; some (.varN a n :: (← resTmps P r))
    | false => some (.var1 a :: (← resTmps P r))

def compF (P : Program) (G : Cfg) (fn : Func) : Option AFunc := do
  let c ← fn.body
  let b ← compC P fn.ntmps G c
  let r ← resTmps P fn.results.toList
  if fn.name = "runtime.NumGoroutine" then none else some { ntmps := fn.ntmps, results := r, body := b }
end Go.Am
