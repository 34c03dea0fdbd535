/- A machine of our own over the loaded code: blocks under numbers of its own, no tape. Its operations, its run. -/
import Derived.WalkKit
import Derived.Lib.Builder
import Derived.Lib.UnsafeStr
import Derived.Lib.MakeNoZero
import Derived.Lib.Bytealg
import Derived.Laws.RangeString
namespace Go.Am

/-- A tree by number. -/
inductive Tr (α : Type) : Type where
  | nil
  | node (v : Option α) (l r : Tr α)

namespace Tr
variable {α : Type}
def get : Tr α → Nat → Option α
  | nil, _ => none
  | node v l r, n => bif Nat.beq n 0 then v else bif Nat.beq (n % 2) 1 then l.get (n / 2) else r.get (n / 2 - 1)

def val : Tr α → Option α
  | nil => none
  | node v _ _ => v
def lft : Tr α → Tr α
  | nil => nil
  | node _ l _ => l
def rgt : Tr α → Tr α
  | nil => nil
  | node _ _ r => r

def setF (v : Option α) : Nat → Tr α → Nat → Tr α
  | 0, t, _ => t
  | f + 1, t, n => bif Nat.beq n 0 then node v t.lft t.rgt
    else bif Nat.beq (n % 2) 1 then node t.val (setF v f t.lft (n / 2)) t.rgt else node t.val t.lft (setF v f t.rgt (n / 2 - 1))

def set (t : Tr α) (n : Nat) (v : Option α) : Tr α := setF v (n + 1) t n

theorem beqN {a b : Nat} (h : a ≠ b) : Nat.beq a b = false := by
  cases e : Nat.beq a b with
  | false => rfl
  | true => exact absurd (Nat.eq_of_beq_eq_true e) h
theorem beqS (a : Nat) : Nat.beq a a = true := by rw [Nat.beq_eq]

theorem get_eq (t : Tr α) (n : Nat) : t.get n = if n = 0 then t.val else if n % 2 = 1 then t.lft.get (n / 2) else t.rgt.get (n / 2 - 1) := by
  cases t with
  | nil => simp [get, val, lft, rgt]
  | node v l r =>
    simp only [get, val, lft, rgt]
    by_cases h : n = 0
    · subst h; simp
    · by_cases h1 : n % 2 = 1
      · rw [beqN h, h1, beqS]; simp [h]
      · rw [beqN h, beqN h1]; simp [h, h1]

theorem get_setF (v : Option α) : ∀ (f : Nat) (t : Tr α) (n m : Nat), n < f → (setF v f t n).get m = if m = n then v else t.get m := by
  intro f
  induction f with
  | zero => intro t n m h; omega
  | succ f ih =>
    intro t n m h
    simp only [setF]
    by_cases h0 : n = 0
    · subst h0
      rw [beqS, cond_true, get_eq, get_eq t m]
      by_cases hm : m = 0
      · simp [hm, val]
      · simp [hm, lft, rgt]
    · rw [beqN h0, cond_false]
      by_cases h1 : n % 2 = 1
      · rw [h1, beqS, cond_true, get_eq, get_eq t m]
        by_cases hm : m = 0
        · have : ¬ 0 = n := fun e => h0 e.symm
          simp [hm, val, this]
        · by_cases hm1 : m % 2 = 1
          · simp only [hm, hm1, if_true, if_false, lft]
            rw [ih _ _ _ (by omega)]
            by_cases e : m = n
            · simp [e]
            · have : ¬ m / 2 = n / 2 := by omega
              simp [e, this]
          · have : ¬ m = n := by omega
            simp [hm, hm1, rgt, this]
      · rw [beqN h1, cond_false, get_eq, get_eq t m]
        by_cases hm : m = 0
        · have : ¬ 0 = n := fun e => h0 e.symm
          simp [hm, val, this]
        · by_cases hm1 : m % 2 = 1
          · have : ¬ m = n := by omega
            simp [hm, hm1, lft, this]
          · simp only [hm, hm1, if_false, rgt]
            rw [ih _ _ _ (by omega)]
            by_cases e : m = n
            · simp [e]
            · have : ¬ m / 2 - 1 = n / 2 - 1 := by omega
              simp [e, this]

theorem get_set (t : Tr α) (n m : Nat) (v : Option α) : (t.set n v).get m = if m = n then v else t.get m :=
  get_setF v (n + 1) t n m (Nat.lt_succ_self n)

@[simp] theorem get_nil (n : Nat) : (nil : Tr α).get n = none := rfl
end Tr

/-- A slice's capacity that isn't known, of elements of so many cells: this, and they. -/
def U : Nat := 18446744073709551616

inductive Opd where
  | t (n : Nat)
  | c (v : Value)

/-- What a block is: a whole variable or row of a type; a part of a row; where a range over a text stands. -/
inductive Kind where
  | var (t : TypeId)
  | row (t : TypeId)
  | iter (b : ByteArray) (pos : Nat)

def Kind.ty : Kind → Option TypeId
  | .var t => some t
  | .row t => some t
  | .iter _ _ => none

def Kind.isC : Kind → Bool
  | .iter _ _ => false
  | _ => true

def Kind.is (k : Kind) (t : TypeId) : Bool :=
  match k with
  | .var u => Nat.beq u t
  | .row u => Nat.beq u t
  | .iter _ _ => false

structure Blk where
  cells : List Value
  elem : Kind
  wr : Bool

structure St where
  heap : Tr Blk
  next : Nat

def St.get (s : St) (b : Nat) : Option Blk := s.heap.get b
def St.put (s : St) (b : Nat) (x : Option Blk) : St := { s with heap := s.heap.set b x }

/-- A block of cells. -/
def St.cel (s : St) (b : Nat) : Option Blk :=
  match s.get b with
  | some x => bif x.elem.isC then some x else none
  | none => none

theorem St.get_put (s : St) (b c : Nat) (x : Option Blk) : (s.put b x).get c = if c = b then x else s.get c := Tr.get_set _ _ _ _
/-- A new block of a number. -/
def St.own (s : St) (b : Nat) (x : Blk) : St := { heap := s.heap.set b (some x), next := bif Nat.blt b s.next then s.next else b + 1 }

theorem St.get_own (s : St) (b c : Nat) (x : Blk) : (s.own b x).get c = if c = b then some x else s.get c := Tr.get_set _ _ _ _
@[simp] theorem St.next_put (s : St) (b : Nat) (x : Option Blk) : (s.put b x).next = s.next := rfl

/-- More operations that touch no memory. -/
inductive XP where
  | bad
  | iface (t : TypeId) (x : Opd)
  | assert (x : Opd) (t : TypeId) (zero : Value)
  | cap (x : Opd)
  | data (x : Opd)
  | index (x c : Opd)
  | count (x c : Opd)
  | ptrEq (neg : Bool) (x y : Opd)

/-- More operations that act. -/
inductive XA where
  | range (x : Opd)
  | next (x : Opd)
  | newMap
  | noZero (n : Opd) (elem : TypeId)
  | str (p n : Opd) (elem : TypeId)
  | toU (x : Opd)
  | fromU (x : Opd) (u : TypeId)
  | invoke (x : Opd) (name : String) (args : List Opd)

/-- How many variables the program has; which functions are what slices.Backward hands back. -/
structure Cfg where
  n : Nat
  backs : List FuncId

/-- Operations. -/
inductive AOp where
  | mov (x : Opd)
  | pick (c a b : Opd)
  | alloc (elem : TypeId) (zero : List Value)
  | box (elem : TypeId) (x : Opd)
  | build (zero : List Value) (parts : List (Nat × Nat × Opd))
  | mkRow (elem : TypeId) (len : Nat) (zero : List Value) (parts : List (Nat × Nat × Opd))
  | load1 (a : Opd)
  | loadN (a : Opd) (n : Nat)
  | store (a x : Opd) (n : Nat)
  | nilCheck (x : Opd)
  | arith (op : BinOp) (x y : Opd)
  | plain (o : Oper) (args : List Opd)
  | nilP (neg : Bool) (x y : Opd)
  | nilS (neg : Bool) (x y : Opd)
  | field1 (x : Opd) (off : Nat)
  | fieldN (x : Opd) (off n : Nat)
  | fieldAddr (x : Opd) (off : Nat)
  | indexRow (x i : Opd) (es : Nat)
  | indexArr (x i : Opd) (len es : Nat)
  | index1 (x i : Opd) (len : Nat)
  | indexN (x i : Opd) (len es : Nat)
  | indexStr (x i : Opd)
  | slice (x : Opd) (lo hi mx : Option Opd) (es : Nat)
  | sliceStr (x : Opd) (lo hi : Option Opd)
  | sliceArr (x : Opd) (lo hi mx : Option Opd) (len es : Nat)
  | makeSlice (l c : Opd) (elem : TypeId) (zero : List Value) (bytes : Nat)
  | extract (x : Opd) (i : Nat)
  | lenStr (x : Opd)
  | lenRow (x : Opd)
  | lenArr (n : Nat)
  | append (s x : Opd) (elem : TypeId) (zero : List Value) (bytes : Nat)
  | copy (d x : Opd) (es : Nat)
  | makeFunc (f : FuncId) (first captured : List Opd)
  | call (f : FuncId) (args : List Opd)
  | callv (f : Opd) (args : List Opd)
  | xp (k : XP)
  | xa (k : XA)

structure AOper where
  dst : Option Nat
  guard : Option (Nat × Bool)
  op : AOp

inductive ACode where
  | skip
  | ret
  | exit (id : Nat)
  | seq (a b : ACode)
  | cond (c : Opd) (a b : ACode)
  | block (id : Nat) (a : ACode)
  | loop (a : ACode)
  | region (ops : List AOper)
  /-- of each operation: the numbers of those that act and stand in no order with it -/
  | draw (ops : List AOper) (un : List (List Nat))
  /-- a range over slices.Backward -/
  | back (gs : List FuncId) (f : Opd) (pi px : Nat) (assign body : ACode)
  | bad

def ACode.noBack : ACode → Bool
  | .seq a b => a.noBack && b.noBack
  | .cond _ a b => a.noBack && b.noBack
  | .block _ a => a.noBack
  | .loop a => a.noBack
  | .back .. => false
  | _ => true

/-- A result: a slot; a variable of one cell, of many. -/
inductive RV where
  | slot (t : Nat)
  | var1 (t : Nat)
  | varN (t n : Nat)

structure AFunc where
  ntmps : Nat
  results : List RV
  body : ACode

abbrev Env := Tr Value

def Env.at (e : Env) (n : Nat) : Value := (Tr.get e n).getD undef

def Opd.ev (e : Env) : Opd → Value
  | .t n => e.at n
  | .c v => v

/-- A value that is one cell. -/
def one : Value → Bool
  | .agg _ => false
  | .tuple _ => false
  | _ => true

/-- A number, a bool, a text. -/
def scalar : Value → Bool
  | .bool _ => true
  | .int _ _ => true
  | .string _ => true
  | _ => false

/-- A value that holds no address. -/
def flat : Value → Bool
  | .agg cs => cs.toList.all scalar
  | v => scalar v

/-- What an operation gives that asks nothing of the world. -/
def prun {α : Type} (P : Program) : Sem α → Option α
  | .pure a => some a
  | .program k => prun P (k P)
  | _ => none

def cellsOf : Value → List Value
  | .agg cs => cs.toList
  | v => [v]

/-- Put values from a place on. -/
def putAt : List Value → Nat → List Value → List Value
  | [], _, _ => []
  | x :: l, 0, [] => x :: l
  | _ :: l, 0, v :: vs => v :: putAt l 0 vs
  | x :: l, n + 1, vs => x :: putAt l n vs

def fillL (e : Env) : List Value → List (Nat × Nat × Opd) → Option (List Value)
  | cs, [] => some cs
  | cs, (off, size, x) :: r =>
    let vs := cellsOf (x.ev e)
    if vs.length = size ∧ off + size ≤ cs.length then fillL e (putAt cs off vs) r else none

/-- The row of cells at a place. -/
def St.row (s : St) (b : Nat) : Option (List Value) := (s.get b).map (·.cells)

/-- n cells from an offset on. -/
def take (cs : List Value) (off n : Nat) : Option (List Value) :=
  if off + n ≤ cs.length then some ((cs.drop off).take n) else none

inductive ARes where
  | val (v : Value)
  | call (f : FuncId) (args : List Value)

def asI : Value → Option Int
  | .int _ n => some n
  | _ => none

/-- k.wrap n, quick where nothing is to be done. -/
def wrapF (k : IntKind) (n : Int) : Int :=
  match k, n with
  | .i64, .ofNat m => bif Nat.blt m 9223372036854775808 then .ofNat m else IntKind.wrap .i64 (.ofNat m)
  | .i64, .negSucc m => bif Nat.blt m 9223372036854775808 then .negSucc m else IntKind.wrap .i64 (.negSucc m)
  | .u64, .ofNat m => .ofNat (m % 18446744073709551616)
  | .u8, .ofNat m => .ofNat (m % 256)
  | k, n => IntKind.wrap k n

def ltI : Int → Int → Bool
  | .ofNat a, .ofNat b => Nat.blt a b
  | .negSucc _, .ofNat _ => true
  | .ofNat _, .negSucc _ => false
  | .negSucc a, .negSucc b => Nat.blt b a
def eqI : Int → Int → Bool
  | .ofNat a, .ofNat b => Nat.beq a b
  | .negSucc a, .negSucc b => Nat.beq a b
  | _, _ => false

def isShift : BinOp → Bool
  | .shl => true
  | .shr => true
  | _ => false

def arithA (op : BinOp) (k : IntKind) (a b : Int) : Option Value :=
  match op with
  | .add => some (.int k (wrapF k (a + b)))
  | .sub => some (.int k (wrapF k (a - b)))
  | .mul => some (.int k (wrapF k (a * b)))
  | .quo => if b = 0 then none else some (.int k (wrapF k (a.tdiv b)))
  | .rem => if b = 0 then none else some (.int k (a.tmod b))
  | .eql => some (.bool (eqI a b))
  | .neq => some (.bool (!eqI a b))
  | .lss => some (.bool (ltI a b))
  | .leq => some (.bool (!ltI b a))
  | .gtr => some (.bool (ltI b a))
  | .geq => some (.bool (!ltI a b))
  | .shl => if b < 0 then none else some (.int k (wrapF k (a * 2 ^ (min b.toNat k.bits))))
  | .shr => if b < 0 then none else some (.int k (a.fdiv (2 ^ (min b.toNat k.bits))))
  | _ => none

def evIdx (x : Value) (len : Nat) : Option Nat :=
  match x with
  | .int _ (.ofNat i) => bif Nat.blt i len then some i else none
  | _ => none

/-- a bound of a slice: up to y -/
def evBound (x : Value) (y : Nat) : Option Nat :=
  match x with
  | .int _ (.ofNat i) => bif Nat.ble i y then some i else none
  | _ => none

/-- low, high, max. -/
def mxOf (e : Env) (cap : Nat) : Option Opd → Option Nat
  | some v => evBound (v.ev e) cap
  | none => some cap
def hiOf (e : Env) (len m : Nat) (mx : Option Opd) : Option Opd → Option Nat
  | some v => evBound (v.ev e) m
  | none => bif mx.isSome then none else some len
def loOf (e : Env) (h : Nat) : Option Opd → Option Nat
  | some v => evBound (v.ev e) h
  | none => some 0
def bounds (e : Env) (len cap : Nat) (lo hi mx : Option Opd) : Option (Nat × Nat × Nat) :=
  match mxOf e cap mx with
  | none => none
  | some m => match hiOf e len m mx hi with
    | none => none
    | some h => match loOf e h lo with
      | none => none
      | some l => some (l, h, m)

/-- The cells that append takes. -/
def newCells (s : St) (es : Nat) : Value → Option (Nat × List Value)
  | .slice none n _ => bif Nat.beq n 0 then some (0, []) else none
  | .slice (some ⟨b, o, none⟩) n _ => do
    let blk ← s.cel b
    let l ← take blk.cells o (n * es)
    some (n, l)
  | .string x => bif Nat.beq es 1 then some (x.size, x.data.toList.map fun b => .int .u8 b.toNat) else none
  | _ => none

def appendA (s : St) (id : Nat) (v x : Value) (elem : TypeId) (zero : List Value) (bytes : Nat) : Option (Value × St) :=
  let es := zero.length
  if es = 0 then none else
  match newCells s es x with
  | none => none
  | some (m, news) =>
    if !news.all one then none else
    match v with
    | .slice none n c =>
      if n ≠ 0 ∨ c ≠ 0 then none
      else if m = 0 then some (v, s)
      else if m * bytes ≤ 140737488355328 ∧ m ≤ 9223372036854775807 then
        some (.slice (some ⟨id, 0, none⟩) m (U + es), s.own id ⟨news, .row elem, true⟩)
      else none
    | .slice (some ⟨b, o, none⟩) n c =>
      if m = 0 then some (.slice (some ⟨b, o, none⟩) n c, s) else
      match s.cel b with
      | none => none
      | some blk =>
        if !(blk.wr && decide (n + m ≤ 9223372036854775807) && decide ((n + m) * bytes ≤ 140737488355328)) then none
        else if c < U then
          if n + m ≤ c then
            if o + (n + m) * es ≤ blk.cells.length then
              some (.slice (some ⟨b, o, none⟩) (n + m) c, s.put b (some { blk with cells := putAt blk.cells (o + n * es) news }))
            else none
          else
            match take blk.cells o (n * es) with
            | none => none
            | some old => some (.slice (some ⟨id, 0, none⟩) (n + m) (U + es), s.own id ⟨old ++ news, .row elem, true⟩)
        else if c ≠ U + es then none
        else if o + (n + m) * es ≤ blk.cells.length then
          some (.slice (some ⟨b, o, none⟩) (n + m) c, s.put b (some { blk with cells := putAt blk.cells (o + n * es) news }))
        else if !(blk.elem.is elem) then none
        else
          match take blk.cells o (n * es) with
          | none => none
          | some old => some (.slice (some ⟨id, 0, none⟩) (n + m) (U + es), (s.put b none).own id ⟨old ++ news, .row elem, true⟩)
    | _ => none

def rep (l : List Value) : Nat → List Value
  | 0 => []
  | n + 1 => l ++ rep l n

/-- More operations that touch no memory. -/
def pureX (e : Env) : XP → Option Value
  | .bad => none
  | .iface t x => some (.iface t (x.ev e))
  | .assert x t z => match x.ev e with
    | .iface u v => bif Nat.beq u t then some (.tuple ⟨[v, .bool true]⟩) else some (.tuple ⟨[z, .bool false]⟩)
    | .nilIface => some (.tuple ⟨[z, .bool false]⟩)
    | _ => none
  | .cap x => match x.ev e with
    | .slice _ _ c => bif Nat.blt c U then some (.int .i64 c) else none
    | _ => none
  | .data x => match x.ev e with
    | .slice none _ _ => some (.pointer none)
    | .slice (some ⟨b, o, none⟩) n _ => bif Nat.beq n 0 then none else some (.pointer (some ⟨b, o, none⟩))
    | _ => none
  | .index x c => match x.ev e, c.ev e with
    | .string s, .int .u8 k => some (.int .i64 (Lib.indexByte s.data.toList k.toNat.toUInt8))
    | _, _ => none
  | .count x c => match x.ev e, c.ev e with
    | .string s, .int .u8 k => some (.int .i64 (Lib.countByte s.data.toList k.toNat.toUInt8 : Nat))
    | _, _ => none
  | .ptrEq neg x y => match x.ev e, y.ev e with
    | .pointer none, .pointer a => some (.bool (a.isNone != neg))
    | .pointer (some _), .pointer none => some (.bool neg)
    | .pointer (some a), .pointer (some b) => if a = b then some (.bool (!neg)) else none
    | _, _ => none

/-- Operations that ask and turn no memory. -/
def pureOf (P : Program) (e : Env) : AOp → Option Value
  | .mov x => some (x.ev e)
  | .pick c a b => match c.ev e with
    | .bool t => some (bif t then a.ev e else b.ev e)
    | _ => none
  | .build zero parts => (fillL e zero parts).map fun cs => .agg ⟨cs⟩
  | .nilCheck x => match x.ev e with
    | .pointer (some a) => some (.pointer (some a))
    | .func (.func f) a b => some (.func (.func f) a b)
    | _ => none
  | .arith op x y => match x.ev e, y.ev e with
    | .int k a, .int k' b => bif isShift op || decide (k = k') then arithA op k a b else none
    | _, _ => none
  | .plain o args => if args.all (fun x => flat (x.ev e)) then
      match prun P (execOp (fun x => match x with
        | .tmp t => e.at t
        | .const v => v
        | _ => undef) o) with
      | some (.value v) => if flat v then some v else none
      | _ => none
    else none
  | .nilP neg x y => match x.ev e, y.ev e with
    | .pointer none, .pointer a => some (.bool (a.isNone != neg))
    | .pointer (some _), .pointer none => some (.bool neg)
    | _, _ => none
  | .nilS neg x y => match x.ev e, y.ev e with
    | .slice none _ _, .slice a _ _ => some (.bool (a.isNone != neg))
    | .slice (some _) _ _, .slice none _ _ => some (.bool neg)
    | _, _ => none
  | .field1 x off => match x.ev e with
    | .agg cs => cs.toList[off]?
    | _ => none
  | .fieldN x off n => match x.ev e with
    | .agg cs => (take cs.toList off n).map fun l => .agg ⟨l⟩
    | _ => none
  | .fieldAddr x off => match x.ev e with
    | .pointer (some ⟨b, o, none⟩) => some (.pointer (some ⟨b, o + off, none⟩))
    | _ => none
  | .indexRow x i es => match x.ev e with
    | .slice (some ⟨b, o, none⟩) len _ => (evIdx (i.ev e) len).map fun k => .pointer (some ⟨b, o + k * es, none⟩)
    | _ => none
  | .indexArr x i len es => match x.ev e with
    | .pointer (some ⟨b, o, none⟩) => (evIdx (i.ev e) len).map fun k => .pointer (some ⟨b, o + k * es, none⟩)
    | _ => none
  | .index1 x i len => match x.ev e with
    | .agg cs => match evIdx (i.ev e) len with
      | some k => cs.toList[k]?
      | none => none
    | _ => none
  | .indexN x i len es => match x.ev e with
    | .agg cs => match evIdx (i.ev e) len with
      | some k => (take cs.toList (k * es) es).map fun l => .agg ⟨l⟩
      | none => none
    | _ => none
  | .indexStr x i => match x.ev e, i.ev e with
    | .string b, .int _ (.ofNat k) => (b.data.toList[k]?).map fun c => .int .u8 c.toNat
    | _, _ => none
  | .slice x lo hi mx es => match x.ev e with
    | .slice none len cap => bif Nat.blt cap U then
        (bounds e len cap lo hi mx).map fun (l, h, m) => .slice none (h - l) (m - l)
      else none
    | .slice (some ⟨b, o, none⟩) len cap =>
      bif Nat.blt cap U then
        (bounds e len cap lo hi mx).map fun (l, h, m) => .slice (some ⟨b, bif Nat.beq m l then o else o + l * es, none⟩) (h - l) (m - l)
      else bif Nat.beq cap (U + es) then
        match mx with
        | none => (bounds e len len lo hi mx).map fun (l, h, _) => .slice (some ⟨b, o + l * es, none⟩) (h - l) cap
        | some _ => bif Nat.blt len U then (bounds e len len lo hi mx).map fun (l, h, m) => .slice (some ⟨b, bif Nat.beq m l then o else o + l * es, none⟩) (h - l) (m - l) else none
      else none
    | _ => none
  | .sliceStr x lo hi => match x.ev e with
    | .string b => (bounds e b.size b.size lo hi none).map fun (l, h, _) => .string ⟨⟨(b.data.toList.drop l).take (h - l)⟩⟩
    | _ => none
  | .sliceArr x lo hi mx len es => match x.ev e with
    | .pointer (some ⟨b, o, none⟩) =>
        (bounds e len len lo hi mx).map fun (l, h, m) => .slice (some ⟨b, bif Nat.beq m l then o else o + l * es, none⟩) (h - l) (m - l)
    | _ => none
  | .extract x i => match x.ev e with
    | .tuple vs => vs.toList[i]?
    | _ => none
  | .lenStr x => match x.ev e with
    | .string b => some (.int .i64 b.size)
    | _ => none
  | .lenRow x => match x.ev e with
    | .slice _ n _ => some (.int .i64 n)
    | _ => none
  | .lenArr n => some (.int .i64 n)
  | .makeFunc f first captured => some (.func (.func f) ⟨first.map (·.ev e)⟩ ⟨captured.map (·.ev e)⟩)
  | .xp k => pureX e k
  | _ => none

/-- Operations that make a block and do nothing else. -/
def allocOf (e : Env) (id : Nat) : AOp → Option (Value × Blk)
  | .alloc elem zero => some (.pointer (some ⟨id, 0, none⟩), ⟨zero, .var elem, true⟩)
  | .box elem x => some (.pointer (some ⟨id, 0, none⟩), ⟨cellsOf (x.ev e), .var elem, true⟩)
  | .mkRow elem len zero parts => (fillL e (rep zero len) parts).map fun cs => (.slice (some ⟨id, 0, none⟩) len len, ⟨cs, .var elem, true⟩)
  | .makeSlice l c elem zero bytes => match l.ev e, c.ev e with
    | .int _ (.ofNat a), .int _ (.ofNat b) =>
      if a ≤ b ∧ b ≤ 9223372036854775807 ∧ bytes * b ≤ 281474976710656 then
        some (.slice (some ⟨id, 0, none⟩) a b, ⟨rep zero b, .var elem, true⟩)
      else none
    | _, _ => none
  | _ => none

/-- Operations that read a variable. -/
def loadOf (e : Env) (s : St) : AOp → Option Value
  | .load1 a => match a.ev e with
    | .pointer (some ⟨b, o, none⟩) => match s.cel b with
      | some blk => blk.cells[o]?
      | none => none
    | _ => none
  | .loadN a n => match a.ev e with
    | .pointer (some ⟨b, o, none⟩) => match s.cel b with
      | some blk => (take blk.cells o n).map fun l => .agg ⟨l⟩
      | none => none
    | _ => none
  | _ => none

/-- The bytes of cells. -/
def bytesL : List Value → Option (List UInt8)
  | [] => some []
  | .int .u8 (.ofNat n) :: l => bif Nat.blt n 256 then (bytesL l).map (n.toUInt8 :: ·) else none
  | _ :: _ => none

/-- The function behind a method's name, of a type's own method whose receiver is handed on as it is. -/
def methodA (P : Program) (t : TypeId) (name : String) : Option FuncId :=
  match P.info? t with
  | none => none
  | some i => match i.methods.find? (·.name == name) with
    | none => none
    | some m => bif m.path.toList.isEmpty then
        match m.func with
        | none => none
        | some (f, true) => match P.underlying t with
          | some (.pointer _) => some f
          | _ => none
        | some (f, false) => match P.underlying t with
          | some (.pointer _) => none
          | some _ => some f
          | none => none
      else none

/-- More operations that act. -/
def actX (P : Program) (e : Env) (s : St) (id : Nat) : XA → Option (ARes × St)
  | .range x => match x.ev e with
    | .string b => some (.val (.pointer (some ⟨id, 0, none⟩)), s.own id ⟨[], .iter b 0, true⟩)
    | _ => none
  | .next x => match x.ev e with
    | .pointer (some ⟨b, 0, none⟩) => match s.get b with
      | some blk => match blk.elem with
        | .iter t pos => bif blk.wr then
            (bif Nat.blt pos t.size then
              some (.val (.tuple ⟨[.bool true, .int .i64 pos, .int .i32 (Utf8.decode t pos).1]⟩), s.put b (some ⟨[], .iter t (pos + (Utf8.decode t pos).2), true⟩))
            else some (.val (.tuple ⟨[.bool false]⟩), s))
          else none
        | _ => none
      | none => none
    | _ => none
  | .newMap => some (.val (.map (some 0)), s)
  | .noZero n el => match n.ev e with
    | .int .i64 (.ofNat k) => bif Nat.ble k 281474976710656 then some (.val (.slice (some ⟨id, 0, none⟩) k (U + 1)), s.own id ⟨[], .row el, true⟩) else none
    | _ => none
  | .str p n el => match p.ev e, n.ev e with
    | .pointer none, .int .i64 (.ofNat k) => bif Nat.beq k 0 then some (.val (.string ⟨⟨[]⟩⟩), s) else none
    | .pointer (some ⟨b, o, none⟩), .int .i64 (.ofNat k) => bif Nat.beq k 0 then some (.val (.string ⟨⟨[]⟩⟩), s) else
      match s.cel b with
      | none => none
      | some blk => match take blk.cells o k with
        | none => none
        | some l => match bytesL l with
          | none => none
          | some bs => bif blk.wr && blk.elem.is el && Nat.ble k 9223372036854775807 then some (.val (.string ⟨⟨bs⟩⟩), s.put b (some { blk with wr := false })) else none
    | _, _ => none
  | .toU x => match x.ev e with
    | .pointer (some ⟨b, o, none⟩) => match s.cel b with
      | some blk => bif Nat.blt o blk.cells.length then some (.val (.pointer (some ⟨b, o, none⟩)), s) else none
      | none => none
    | _ => none
  | .fromU x u => match x.ev e with
    | .pointer (some ⟨b, o, none⟩) => match s.cel b with
      | some blk => match blk.elem with
        | .var t => bif liesAt P P.depth t (blk.cells.length / P.cellsOf t) o u 1 then some (.val (.pointer (some ⟨b, o, none⟩)), s) else none
        | _ => none
      | none => none
    | _ => none
  | .invoke x name args => match x.ev e with
    | .iface t v => match methodA P t name with
      | some f => some (.call f (v :: args.map (·.ev e)), s)
      | none => none
    | _ => none

/-- All others. -/
def actOf (P : Program) (e : Env) (s : St) (id : Nat) : AOp → Option (ARes × St)
  | .store a x n => match a.ev e with
    | .pointer (some ⟨b, o, none⟩) => match s.cel b with
      | some blk =>
        let vs := cellsOf (x.ev e)
        if blk.wr && decide (vs.length = n) && vs.all one && decide (o + n ≤ blk.cells.length) then
          some (.val undef, s.put b (some { blk with cells := putAt blk.cells o vs }))
        else none
      | none => none
    | _ => none
  | .append v x elem zero bytes => (appendA s id (v.ev e) (x.ev e) elem zero bytes).map fun (v, s) => (.val v, s)
  | .copy d x es => match d.ev e with
    | .slice none n _ => match x.ev e with
      | .slice _ m _ => bif Nat.beq n 0 || Nat.beq m 0 then some (.val (.int .i64 0), s) else none
      | _ => none
    | .slice (some ⟨b, o, none⟩) n _ => match newCells s es (x.ev e), s.cel b with
      | some (m, news), some blk =>
        let k := min m n
        let vs := news.take (k * es)
        if blk.wr && vs.all one && decide (o + k * es ≤ blk.cells.length) then
          some (.val (.int .i64 k), s.put b (some { blk with cells := putAt blk.cells o vs }))
        else none
      | _, _ => none
    | _ => none
  | .call f args => some (.call f (args.map (·.ev e)), s)
  | .callv f args => match f.ev e with
    | .func (.func g) first captured => some (.call g (first.toList ++ args.map (·.ev e) ++ captured.toList), s)
    | _ => none
  | .xa k => actX P e s id k
  | _ => none

inductive Cls where
  | pure | alloc | load | act

def AOp.cls : AOp → Cls
  | .alloc .. => .alloc
  | .box .. => .alloc
  | .mkRow .. => .alloc
  | .makeSlice .. => .alloc
  | .load1 .. => .load
  | .loadN .. => .load
  | .store .. => .act
  | .append .. => .act
  | .copy .. => .act
  | .call .. => .act
  | .callv .. => .act
  | .xa _ => .act
  | _ => .pure

/-- Run an operation; a new block is of number id. -/
def evOp (P : Program) (e : Env) (s : St) (id : Nat) (o : AOp) : Option (ARes × St) :=
  match o.cls with
  | .pure => (pureOf P e o).map fun v => (.val v, s)
  | .alloc => (allocOf e id o).map fun (v, b) => (.val v, s.own id b)
  | .load => (loadOf e s o).map fun v => (.val v, s)
  | .act => actOf P e s id o

/-- Is an operation wanted? -/
def wants (e : Env) : Option (Nat × Bool) → Bool
  | none => true
  | some (t, want) => match e.at t with
    | .bool b => b == want
    | _ => false

def Env.put (e : Env) (dst : Option Nat) (v : Value) : Env :=
  match dst with
  | some d => Tr.set e d (some v)
  | none => e

inductive Ex where
  | normal
  | exit (id : Nat)
  | ret

abbrev CallF := FuncId → List Value → St → Option (Value × St)

/-- One operation, its call too. -/
def step (P : Program) (call : CallF) (o : AOper) (id : Nat) (e : Env) (s : St) : Option (Env × St) :=
  bif wants e o.guard then
    match evOp P e s id o.op with
    | some (.val v, s') => some (e.put o.dst v, s')
    | some (.call f args, s') => match call f args s' with
      | some (v, s'') => some (e.put o.dst v, s'')
      | none => none
    | none => none
  else some (e.put o.dst undef, s)

def evOps (P : Program) (call : CallF) : List AOper → Env → St → Option (Env × St)
  | [], e, s => some (e, s)
  | o :: r, e, s => match step P call o s.next e s with
    | some (e', s') => evOps P call r e' s'
    | none => none

/-- In the text's order, new blocks by the place of the operation: what stands ahead of each operation, the last one behind all. -/
def trace (P : Program) (call : CallF) (base : Nat) : Nat → List AOper → Env → St → Option (List (Env × St))
  | _, [], e, s => some [(e, s)]
  | i, o :: r, e, s => match step P call o (base + i) e s with
    | some (e', s') => (trace P call base (i + 1) r e' s').map ((e, s) :: ·)
    | none => none

/-- Are two values the same, as far as one can see? -/
def same : Value → Value → Bool
  | .bool a, .bool b => a == b
  | .int k a, .int j b => decide (k = j) && eqI a b
  | .string a, .string b => decide (a.data.toList = b.data.toList)
  | .pointer none, .pointer none => true
  | .pointer (some a), .pointer (some b) => decide (a = b)
  | .slice none n c, .slice none m d => Nat.beq n m && Nat.beq c d
  | .slice (some a) n c, .slice (some b) m d => decide (a = b) && Nat.beq n m && Nat.beq c d
  | .nilFunc, .nilFunc => true
  | .nilIface, .nilIface => true
  | _, _ => false

def sames : List Value → List Value → Bool
  | [], [] => true
  | a :: l, b :: r => same a b && sames l r
  | _, _ => false

def sameV : Value → Value → Bool
  | .agg a, .agg b => sames a.toList b.toList
  | a, b => same a b

def nthS (l : List (Env × St)) (i : Nat) : Option (Env × St) := l[i]?

/-- A load gives the same on both sides of each operation that stands in no order with it. -/
def calm (tr : List (Env × St)) (o : AOper) (i : Nat) (un : List Nat) : Bool :=
  match un with
  | [] => true
  | _ =>
  match nthS tr i with
  | none => false
  | some (e, s) =>
    bif wants e o.guard then
      match o.op.cls with
      | .load => match loadOf e s o.op with
        | none => false
        | some v => un.all fun j => match nthS tr j, nthS tr (j + 1) with
          | some (_, s1), some (_, s2) => match loadOf e s1 o.op, loadOf e s2 o.op with
            | some v1, some v2 => sameV v v1 && sameV v v2
            | _, _ => false
          | _, _ => false
      | _ => true
    else true

def calmAll (tr : List (Env × St)) : Nat → List AOper → List (List Nat) → Bool
  | _, [], _ => true
  | i, o :: r, un => calm tr o i (un.headD []) && calmAll tr (i + 1) r un.tail

def lastS : List (Env × St) → Option (Env × St)
  | [] => none
  | [x] => some x
  | _ :: y :: l => lastS (y :: l)

def evDraw (P : Program) (call : CallF) (ops : List AOper) (un : List (List Nat)) (e : Env) (s : St) : Option (Env × St) :=
  match trace P call s.next 0 ops e { s with next := s.next + ops.length } with
  | some tr => bif calmAll tr 0 ops un then lastS tr else none
  | none => none

/-- From the last one down. -/
def backLoop (round : Nat → St → Option (Ex × St)) : Nat → St → Option (Ex × St)
  | 0, s => some (.normal, s)
  | k + 1, s => match round k s with
    | some (.normal, s') => backLoop round k s'
    | r => r

/-- The length of the row that a variable holds. -/
def backLen (s : St) (p : Addr) : Option Nat :=
  match p with
  | ⟨b, o, none⟩ => match s.cel b with
    | some x => match x.cells[o]? with
      | some (.slice _ len _) => some len
      | _ => none
    | none => none
  | _ => none

/-- One of that row's elements. -/
def backElem (s : St) (p : Addr) (k : Nat) : Option Value :=
  match p with
  | ⟨b, o, none⟩ => match s.cel b with
    | some x => match x.cells[o]? with
      | some (.slice (some ⟨c, q, none⟩) len _) => bif Nat.blt k len then
          match s.cel c with
          | some y => y.cells[q + k]?
          | none => none
        else none
      | _ => none
    | none => none
  | _ => none

/-- Of a range over slices.Backward: where the row lies. -/
def backAt (gs : List FuncId) : Value → Option Addr
  | .func (.func g) ⟨[]⟩ ⟨[.pointer (some p)]⟩ => bif gs.contains g then some p else none
  | _ => none

/-- One round of such a range. -/
def backRound (ev : ACode → Env → St → Option (Ex × Env × St)) (p : Addr) (pi px : Nat) (as bd : ACode) (e : Env) (k : Nat) (s : St) : Option (Ex × St) :=
  match backElem s p k with
  | none => none
  | some x => match ev as (Tr.set (Tr.set e pi (some (.int .i64 k))) px (some x)) s with
    | some (.normal, e1, s1) => match ev bd e1 s1 with
      | some (ex, _, s2) => some (ex, s2)
      | none => none
    | _ => none

def evC (P : Program) (call : CallF) : Nat → ACode → Env → St → Option (Ex × Env × St)
  | 0, _, _, _ => none
  | n + 1, c, e, s => match c with
    | .skip => some (.normal, e, s)
    | .ret => some (.ret, e, s)
    | .exit id => some (.exit id, e, s)
    | .seq a b => match evC P call n a e s with
      | some (.normal, e', s') => evC P call n b e' s'
      | r => r
    | .cond c a b => match c.ev e with
      | .bool t => bif t then evC P call n a e s else evC P call n b e s
      | _ => none
    | .block id a => match evC P call n a e s with
      | some (.exit i, e', s') => bif Nat.beq i id then some (.normal, e', s') else some (.exit i, e', s')
      | r => r
    | .loop a => match evC P call n a e s with
      | some (.normal, e', s') => evC P call n (.loop a) e' s'
      | r => r
    | .region ops => (evOps P call ops e s).map fun (e', s') => (.normal, e', s')
    | .draw ops un => (evDraw P call ops un e s).map fun (e', s') => (.normal, e', s')
    | .back gs f pi px as bd => match backAt gs (f.ev e) with
      | none => none
      | some p => match backLen s p with
        | none => none
        | some len => bif Nat.ble len 1000000 then
            match backLoop (backRound (evC P call n) p pi px as bd e) len s with
            | some (ex, s') => some (ex, e, s')
            | none => none
          else none
    | .bad => none

def envOf : Nat → List Value → Env → Env
  | _, [], e => e
  | i, v :: l, e => envOf (i + 1) l (Tr.set e i (some v))

def RV.of (e : Env) (s : St) : RV → Option Value
  | .slot t => some (e.at t)
  | .var1 t => loadOf e s (.load1 (.t t))
  | .varN t n => loadOf e s (.loadN (.t t) n)

def rvs (e : Env) (s : St) : List RV → Option (List Value)
  | [] => some []
  | r :: l => match r.of e s, rvs e s l with
    | some v, some vs => some (v :: vs)
    | _, _ => none

def resOf (e : Env) (s : St) (l : List RV) : Option Value :=
  match rvs e s l with
  | some [v] => some v
  | some vs => some (.tuple ⟨vs⟩)
  | none => none

/-- A call, so many deep at most. -/
def evCall (P : Program) (F : FuncId → Option AFunc) : Nat → CallF
  | 0, _, _, _ => none
  | n + 1, f, args, s => match F f with
    | none => none
    | some fn => bif Nat.ble args.length fn.ntmps then
        match evC P (evCall P F n) n fn.body (envOf 0 args .nil) s with
        | some (.normal, e, s') => (resOf e s' fn.results).map fun v => (v, s')
        | some (.ret, e, s') => (resOf e s' fn.results).map fun v => (v, s')
        | _ => none
      else none
end Go.Am
