/- A plain runner of a program's own text: one order, memory by names; whatever is not known stops it. -/
import Derived.WalkKit
import Derived.Deep.AppendSrc
import Derived.Laws.MakeOwn
import Derived.Laws.Tables
import Derived.Laws.IdiomCopy
import Derived.Laws.IdiomStrings
import Derived.Laws.BytesString
section
namespace Go.Proofs.YteopodohghnokaaGreatDoor.Ex
open Go
set_option linter.unusedVariables false

/-! ### Tables -/
structure N8 (α : Type) where
  mk ::
  a0 : α
  a1 : α
  a2 : α
  a3 : α
  a4 : α
  a5 : α
  a6 : α
  a7 : α
def N8.sel {α : Type} (n : N8 α) : Nat → α
  | 0 => n.a0
  | 1 => n.a1
  | 2 => n.a2
  | 3 => n.a3
  | 4 => n.a4
  | 5 => n.a5
  | 6 => n.a6
  | _ => n.a7
def N8.upd {α : Type} (n : N8 α) (i : Nat) (f : α → α) : N8 α := match n, i with
  | ⟨a0, a1, a2, a3, a4, a5, a6, a7⟩, 0 => ⟨f a0, a1, a2, a3, a4, a5, a6, a7⟩
  | ⟨a0, a1, a2, a3, a4, a5, a6, a7⟩, 1 => ⟨a0, f a1, a2, a3, a4, a5, a6, a7⟩
  | ⟨a0, a1, a2, a3, a4, a5, a6, a7⟩, 2 => ⟨a0, a1, f a2, a3, a4, a5, a6, a7⟩
  | ⟨a0, a1, a2, a3, a4, a5, a6, a7⟩, 3 => ⟨a0, a1, a2, f a3, a4, a5, a6, a7⟩
  | ⟨a0, a1, a2, a3, a4, a5, a6, a7⟩, 4 => ⟨a0, a1, a2, a3, f a4, a5, a6, a7⟩
  | ⟨a0, a1, a2, a3, a4, a5, a6, a7⟩, 5 => ⟨a0, a1, a2, a3, a4, f a5, a6, a7⟩
  | ⟨a0, a1, a2, a3, a4, a5, a6, a7⟩, 6 => ⟨a0, a1, a2, a3, a4, a5, f a6, a7⟩
  | ⟨a0, a1, a2, a3, a4, a5, a6, a7⟩, _ => ⟨a0, a1, a2, a3, a4, a5, a6, f a7⟩
def N8.all {α : Type} (x : α) : N8 α := ⟨x, x, x, x, x, x, x, x⟩
abbrev N64 (α : Type) := N8 (N8 α)
abbrev N512 (α : Type) := N8 (N64 α)
abbrev N4096 (α : Type) := N8 (N512 α)
abbrev N32768 (α : Type) := N8 (N4096 α)
/-- A table: numbers below 8 lie near, greater ones deeper. -/
structure Tr (α : Type) where
  s0 : N8 (Option α)
  s1 : N64 (Option α)
  s2 : N512 (Option α)
  s3 : N4096 (Option α)
  s4 : N32768 (Option α)
  rest : List (Nat × Option α)
def Tr.nil {α : Type} : Tr α := ⟨.all none, .all (.all none), .all (.all (.all none)), .all (.all (.all (.all none))), .all (.all (.all (.all (.all none)))), []⟩
def findL {α : Type} (i : Nat) : List (Nat × Option α) → Option α
  | [] => none
  | (j, x) :: l => match Nat.beq j i with
    | true => x
    | false => findL i l
def lvl (i : Nat) : Nat := match Nat.blt i 8 with
  | true => 0
  | false => match Nat.blt i 64 with
    | true => 1
    | false => match Nat.blt i 512 with
      | true => 2
      | false => match Nat.blt i 4096 with
        | true => 3
        | false => match Nat.blt i 32768 with
          | true => 4
          | false => 5
def Tr.get {α : Type} (t : Tr α) (i : Nat) : Option α := match lvl i with
  | 0 => t.s0.sel i
  | 1 => (t.s1.sel (i / 8)).sel (i % 8)
  | 2 => ((t.s2.sel (i / 64)).sel (i / 8 % 8)).sel (i % 8)
  | 3 => (((t.s3.sel (i / 512)).sel (i / 64 % 8)).sel (i / 8 % 8)).sel (i % 8)
  | 4 => ((((t.s4.sel (i / 4096)).sel (i / 512 % 8)).sel (i / 64 % 8)).sel (i / 8 % 8)).sel (i % 8)
  | _ => findL i t.rest
def Tr.upd {α : Type} (t : Tr α) (i : Nat) (x : Option α) : Tr α := match lvl i with
  | 0 => { t with s0 := t.s0.upd i fun _ => x }
  | 1 => { t with s1 := t.s1.upd (i / 8) fun a => a.upd (i % 8) fun _ => x }
  | 2 => { t with s2 := t.s2.upd (i / 64) fun a => a.upd (i / 8 % 8) fun a => a.upd (i % 8) fun _ => x }
  | 3 => { t with s3 := t.s3.upd (i / 512) fun a => a.upd (i / 64 % 8) fun a => a.upd (i / 8 % 8) fun a => a.upd (i % 8) fun _ => x }
  | 4 => { t with s4 := t.s4.upd (i / 4096) fun a => a.upd (i / 512 % 8) fun a => a.upd (i / 64 % 8) fun a => a.upd (i / 8 % 8) fun a => a.upd (i % 8) fun _ => x }
  | _ => { t with rest := (i, x) :: t.rest }
def Tr.set {α : Type} (t : Tr α) (i : Nat) (x : α) : Tr α := t.upd i (some x)
def Tr.del {α : Type} (t : Tr α) (i : Nat) : Tr α := t.upd i none
/-- A list's elements, from a place on. -/
def Tr.put {α : Type} (t : Tr α) : Nat → List α → Tr α
  | _, [] => t
  | i, x :: l => (t.set i x).put (i + 1) l
def Tr.take {α : Type} (t : Tr α) : Nat → Nat → Option (List α)
  | _, 0 => some []
  | i, n + 1 => match t.get i with
    | some x => match t.take (i + 1) n with
      | some l => some (x :: l)
      | none => none
    | none => none

/-! ### Values -/
inductive AV where
  | int (k : IntKind) (n : Int)
  | lin (k : IntKind) (i : Nat) (a c : Int)
  | bool (b : Bool)
  | str (s : List UInt8)
  | ptr (b o : Nat)
  | nilptr
  | slice (b o len es : Nat) (full : Bool)
  | nilslice
  | func (f : FuncId) (first captured : List AV)
  | nilFunc
  | iface (t : TypeId) (v : AV)
  | nilIface
  | agg (l : List AV)
  | tup (l : List AV)
  | glob (g : Nat)
  | opq (i : Nat)
  /-- what a loop over a function hands to that function -/
  | yld (y : Nat)

/-- A value that holds no place in memory. -/
def absV : Value → Option AV
  | .bool b => some (.bool b)
  | .int k n => some (.int k n)
  | .string s => some (.str s.data.toList)
  | .pointer none => some .nilptr
  | .slice none 0 0 => some .nilslice
  | .nilFunc => some .nilFunc
  | .nilIface => some .nilIface
  | .tuple ⟨[]⟩ => some (.tup [])
  | _ => none
def absAll : List Value → Option (List AV)
  | [] => some []
  | v :: l => match absV v with
    | some x => match absAll l with
      | some r => some (x :: r)
      | none => none
    | none => none
/-- Such a value's cells. -/
def absCells : Value → Option (List AV)
  | .agg a => absAll a.toList
  | v => match absV v with
    | some x => some [x]
    | none => none
/-- A word's value. -/
def absC (v : Value) : Option AV := match absV v with
  | some x => some x
  | none => match v with
    | .agg a => match absAll a.toList with
      | some l => some (.agg l)
      | none => none
    | _ => none
def AV.cells : AV → List AV
  | .agg l => l
  | v => [v]
def okc : AV → Bool
  | .agg _ => false
  | .tup _ => false
  | .yld _ => false
  | _ => true

/-! ### Memory -/
structure Blk where
  len : Nat
  cells : Tr AV
structure AH where
  n : Nat
  bs : Tr Blk

/-! ### What a type is -/
inductive TK where
  | slice (e : TypeId)
  | struct (fs : List (Nat × TypeId))
  | array (n : Nat) (e : TypeId)
  | int (k : IntKind)
  | bool
  | str
  | ptr
  | func
  | iface
  | other
structure TI where
  kind : TK
  size : Nat
  bytes : Nat
  zero : Option (List AV)
  /-- are structs of it held against one another by their parts alone? -/
  eq : Bool
def TK.isAgg : TK → Bool
  | .struct _ => true
  | .array _ _ => true
  | _ => false
def kindOf : TypeDesc → TK
  | .slice e => .slice e
  | .struct fs => .struct (fs.toList.map fun f => (f.offset, f.type))
  | .array n e => .array n e
  | .int k => .int k
  | .bool => .bool
  | .string => .str
  | .pointer _ => .ptr
  | .func _ _ _ => .func
  | .interface _ => .iface
  | _ => .other
def plainEq (P : Program) (t : TypeId) : TypeDesc → Bool
  | .struct fs => !P.eqGuardType P.depth t && !P.stoodInHeld t && fs.toList.all fun f => f.name != "_"
  | .array _ _ => false
  | _ => match P.info? t with
    | some i => i.comparable
    | none => false
def fldsOk (P : Program) : TypeDesc → Bool
  | .struct fs => fs.toList.all fun f => (P.info? f.type).isSome
  | _ => true
def zeroOf (P : Program) (d : TypeDesc) (i : TypeInfo) : Option (List AV) := bif fldsOk P d then i.zero.bind absCells else none
def tiOf (P : Program) (t : TypeId) : Option TI :=
  match P.info? t, P.underlying t with
  | some i, some d => some ⟨kindOf d, i.size, i.bytes, zeroOf P d i, plainEq P t d⟩
  | _, _ => none
structure FI where
  ntmps : Nat
  results : List ResultVar
  body : Code

structure Env where
  P : Program
  ty : Tr TI
  fn : Tr FI
  /-- the bounds of the unknown numbers -/
  syms : Tr (Int × Int)
  /-- what a variable of a package holds -/
  globs : Tr AV
  hook : FuncId → List AV → AH → Option (AV × AH)
  /-- functions that do nothing where they are deferred and nothing has failed -/
  quiet : FuncId → Bool := fun _ => false

def mkTys (P : Program) : Nat → Nat → Tr TI → Tr TI
  | _, 0, t => t
  | i, n + 1, t => mkTys P (i + 1) n (match tiOf P i with
    | some x => t.set i x
    | none => t)
def mkFns : Nat → List Func → Tr FI → Tr FI
  | _, [], t => t
  | i, f :: l, t => mkFns (i + 1) l (match f.body with
    | some c => if f.name == "runtime.NumGoroutine" then t else t.set i ⟨f.ntmps, f.results.toList, c⟩
    | none => t)

/-! ### Numbers -/
def lowOf : IntKind → Int
  | .i8 => -128
  | .i16 => -32768
  | .i32 => -2147483648
  | .i64 => -9223372036854775808
  | _ => 0
def highOf : IntKind → Int
  | .i8 => 127
  | .i16 => 32767
  | .i32 => 2147483647
  | .i64 => 9223372036854775807
  | .u8 => 255
  | .u16 => 65535
  | .u32 => 4294967295
  | .u64 => 18446744073709551615
def inKind (k : IntKind) (n : Int) : Bool := decide (lowOf k ≤ n) && decide (n ≤ highOf k)
def wrapF (k : IntKind) (n : Int) : Int := bif inKind k n then n else k.wrap n

structure Lin where
  i : Nat
  a : Int
  c : Int
def linOf : AV → Option (IntKind × Lin)
  | .int k n => some (k, ⟨0, 0, n⟩)
  | .lin k i a c => some (k, ⟨i, a, c⟩)
  | _ => none
def Lin.range (E : Env) (x : Lin) : Option (Int × Int) :=
  if x.a = 0 then some (x.c, x.c) else
  match E.syms.get x.i with
  | some (lo, hi) => if 0 ≤ x.a then some (x.a * lo + x.c, x.a * hi + x.c) else some (x.a * hi + x.c, x.a * lo + x.c)
  | none => none
def Lin.val (E : Env) (k : IntKind) (x : Lin) : Option AV :=
  if x.a = 0 then some (.int k (wrapF k x.c)) else
  match x.range E with
  | some (lo, hi) => if inKind k lo && inKind k hi then some (.lin k x.i x.a x.c) else none
  | none => none
def Lin.add (x y : Lin) : Option Lin :=
  if y.a = 0 then some ⟨x.i, x.a, x.c + y.c⟩
  else if x.a = 0 then some ⟨y.i, y.a, x.c + y.c⟩
  else if x.i = y.i then some ⟨x.i, x.a + y.a, x.c + y.c⟩
  else none
def Lin.neg (x : Lin) : Lin := ⟨x.i, -x.a, -x.c⟩
def Lin.mul (x y : Lin) : Option Lin :=
  if y.a = 0 then some ⟨x.i, x.a * y.c, x.c * y.c⟩
  else if x.a = 0 then some ⟨y.i, y.a * x.c, x.c * y.c⟩
  else none

def cmpI (op : BinOp) (x y : Int) : Option Bool :=
  match op with
  | .eql => some (x == y)
  | .neq => some (x != y)
  | .lss => some (decide (x < y))
  | .leq => some (decide (x ≤ y))
  | .gtr => some (decide (x > y))
  | .geq => some (decide (x ≥ y))
  | _ => none
/-- Is what lies between lo and hi, held against 0, the same for all? -/
def cmpR (op : BinOp) (lo hi : Int) : Option Bool :=
  if lo = hi then cmpI op lo 0 else
  match op with
  | .eql => if 0 < lo ∨ hi < 0 then some false else none
  | .neq => if 0 < lo ∨ hi < 0 then some true else none
  | .lss => if hi < 0 then some true else if 0 ≤ lo then some false else none
  | .leq => if hi ≤ 0 then some true else if 0 < lo then some false else none
  | .gtr => if 0 < lo then some true else if hi ≤ 0 then some false else none
  | .geq => if 0 ≤ lo then some true else if hi < 0 then some false else none
  | _ => none
def intOp (op : BinOp) (k : IntKind) (x y : Int) : Option AV :=
  match op with
  | .add => some (.int k (wrapF k (x + y)))
  | .sub => some (.int k (wrapF k (x - y)))
  | .mul => some (.int k (wrapF k (x * y)))
  | .quo => if y = 0 then none else some (.int k (wrapF k (x.tdiv y)))
  | .rem => if y = 0 then none else some (.int k (x.tmod y))
  | .and => some (.int k (k.wrap ((BitVec.ofInt k.bits x &&& BitVec.ofInt k.bits y).toNat)))
  | .or => some (.int k (k.wrap ((BitVec.ofInt k.bits x ||| BitVec.ofInt k.bits y).toNat)))
  | .xor => some (.int k (k.wrap ((BitVec.ofInt k.bits x ^^^ BitVec.ofInt k.bits y).toNat)))
  | .andNot => some (.int k (k.wrap ((BitVec.ofInt k.bits x &&& ~~~BitVec.ofInt k.bits y).toNat)))
  | .shl => if y < 0 then none else some (.int k (k.wrap (x * 2 ^ (min y.toNat k.bits))))
  | .shr => if y < 0 then none else some (.int k (x.fdiv (2 ^ (min y.toNat k.bits))))
  | _ => (cmpI op x y).map .bool
def linOp (E : Env) (op : BinOp) (k : IntKind) (x y : Lin) : Option AV :=
  match op with
  | .add => (x.add y).bind (·.val E k)
  | .sub => (x.add y.neg).bind (·.val E k)
  | .mul => (x.mul y).bind (·.val E k)
  | .rem => match x.range E with
    | some (lo, _) => if y.a = 0 ∧ 0 < y.c ∧ x.a % y.c = 0 ∧ 0 ≤ lo then some (.int k (x.c % y.c)) else none
    | none => none
  | .quo => match x.range E with
    | some (lo, _) => if y.a = 0 ∧ 0 < y.c ∧ x.a % y.c = 0 ∧ 0 ≤ lo then (Lin.mk x.i (x.a / y.c) (x.c / y.c)).val E k else none
    | none => none
  | op => match x.add y.neg with
    | some d => match d.range E with
      | some (lo, hi) => (cmpR op lo hi).map .bool
      | none => none
    | none => none
def strOp (op : BinOp) (x y : List UInt8) : Option AV :=
  match op with
  | .add => if x.length + y.length ≤ 1000000000 then some (.str (x ++ y)) else none
  | .eql => some (.bool (x == y))
  | .neq => some (.bool (!(x == y)))
  | .lss => some (.bool (Op.bytesLess x y))
  | .leq => some (.bool (Op.bytesLess x y || x == y))
  | .gtr => some (.bool (!(Op.bytesLess x y || x == y)))
  | .geq => some (.bool (!Op.bytesLess x y))
  | _ => none
def partA (i : TI) (cs : List AV) (o : Nat) : Option AV :=
  if i.kind.isAgg then some (.agg ((cs.drop o).take i.size)) else cs[o]?
/-- '==' by a type. -/
def eqLeaf (k : TK) (x y : AV) : Option Bool :=
  match k, x, y with
  | .bool, .bool a, .bool b => some (a == b)
  | .int _, .int k a, .int k' b => if k = k' then some (a == b) else none
  | .str, .str a, .str b => some (a == b)
  | .ptr, .nilptr, .nilptr => some true
  | .ptr, .nilptr, .ptr _ _ => some false
  | .ptr, .ptr _ _, .nilptr => some false
  | .slice _, .nilslice, .nilslice => some true
  | .slice _, .nilslice, .slice _ _ _ _ _ => some false
  | .slice _, .slice _ _ _ _ _, .nilslice => some false
  | .func, .nilFunc, .nilFunc => some true
  | .func, .nilFunc, .func _ _ _ => some false
  | .func, .func _ _ _, .nilFunc => some false
  | .iface, .nilIface, .iface _ _ => some false
  | .iface, .iface _ _, .nilIface => some false
  | _, _, _ => none
/-- Numbers that are not known, held against one another. -/
def eqLin (E : Env) (k : TK) (x y : AV) : Option Bool :=
  match k with
  | .int _ => match linOf x with
    | some (k, p) => match linOf y with
      | some (k', q) => if k = k' then match p.add q.neg with
          | some d => match d.range E with
            | some (lo, hi) => cmpR .eql lo hi
            | none => none
          | none => none
        else none
      | none => none
    | none => none
  | _ => none
def eqT (E : Env) : Nat → TypeId → AV → AV → Option Bool
  | 0, _, _, _ => none
  | n + 1, t, x, y =>
    match E.ty.get t with
    | none => none
    | some i => match i.kind, x, y with
      | .struct fs, .agg l, .agg r =>
        if i.eq then eqF (fun ft a b => eqT E n ft a b) l r fs else none
      | .iface, .iface t1 v1, .iface t2 v2 => match Nat.beq t1 t2 with
        | false => some false
        | true => match E.ty.get t1 with
          | some j => bif !j.kind.isAgg && j.eq then eqT E n t1 v1 v2 else none
          | none => none
      | k, x, y => match eqLeaf k x y with
        | some b => some b
        | none => eqLin E k x y
where
  eqF (eq : TypeId → AV → AV → Option Bool) (l r : List AV) : List (Nat × TypeId) → Option Bool
  | [] => some true
  | (o, ft) :: fs => match E.ty.get ft with
    | none => none
    | some j => match partA j l o, partA j r o with
      | some a, some b => match eq ft a b with
        | some true => eqF eq l r fs
        | q => q
      | _, _ => none
def binE (E : Env) (op : BinOp) (t : TypeId) (x y : AV) : Option AV :=
  match op with
  | .eql => (eqT E 20 t x y).map .bool
  | .neq => (eqT E 20 t x y).map fun b => .bool (!b)
  | _ => none
def binL (E : Env) (op : BinOp) (t : TypeId) (x y : AV) : Option AV :=
  match linOf x with
  | some (k, p) => match linOf y with
    | some (k', q) => if k = k' then linOp E op k p q else none
    | none => none
  | none => binE E op t x y
def isShift : BinOp → Bool
  | .shl => true
  | .shr => true
  | _ => false
def binA (E : Env) (op : BinOp) (t : TypeId) (x y : AV) : Option AV :=
  match x, y with
  | .int k a, .int k' b => if isShift op || decide (k = k') then intOp op k a b else none
  | .str a, .str b => strOp op a b
  | x, y => binL E op t x y
def unA (E : Env) (op : UnOp) (x : AV) : Option AV :=
  match op, x with
  | .neg, .int k n => some (.int k (wrapF k (0 - n)))
  | .neg, .lin k i a c => (Lin.neg ⟨i, a, c⟩).val E k
  | .not, .bool b => some (.bool (!b))
  | .xor, .int k n => intOp .xor k (if k.signed then -1 else k.max) n
  | _, _ => none

/-! ### Operations -/
abbrev Fr := Tr AV
def tmpA (F : Fr) (t : Tmp) : AV := match F.get t with
  | some v => v
  | none => .tup []
def opA (F : Fr) : Operand → Option AV
  | .tmp t => some (tmpA F t)
  | .const v => absC v
  | .global g => some (.glob g)
  | .func f => some (.func f [] [])
def opsA (F : Fr) : List Operand → Option (List AV)
  | [] => some []
  | x :: l => match opA F x with
    | some v => match opsA F l with
      | some r => some (v :: r)
      | none => none
    | none => none

def AH.new (H : AH) (l : List AV) : Option AH := if l.all okc then some ⟨H.n + 1, H.bs.set H.n ⟨l.length, Tr.nil.put 0 l⟩⟩ else none
def loadA (H : AH) (b o n : Nat) : Option (List AV) :=
  match H.bs.get b with
  | some k => if o + n ≤ k.len then k.cells.take o n else none
  | none => none
def storeA (H : AH) (b o : Nat) (l : List AV) : Option AH :=
  match H.bs.get b with
  | some k => if o + l.length ≤ k.len && l.all okc then some ⟨H.n, H.bs.set b ⟨k.len, k.cells.put o l⟩⟩ else none
  | none => none

def natOf : AV → Option Nat
  | .int _ n => match n with
    | .ofNat m => some m
    | .negSucc _ => none
  | _ => none

inductive R where
  | val (v : AV) (H : AH)
  | skip (H : AH)
  | call (f : FuncId) (args : List AV) (H : AH)

def loadT (E : Env) (t : TypeId) (a : AV) (H : AH) : Option AV :=
  match E.ty.get t with
  | none => none
  | some i =>
    match a with
    | .ptr b o =>
      if i.kind.isAgg then (loadA H b o i.size).map .agg
      else match loadA H b o 1 with
        | some [x] => some x
        | _ => none
    | .glob g => if i.kind.isAgg then none else E.globs.get g
    | _ => none
def fillA (cells : List AV) : List (Nat × List AV) → Option (List AV)
  | [] => some cells
  | (o, v) :: l => if o + v.length ≤ cells.length then fillA (cells.take o ++ v ++ cells.drop (o + v.length)) l else none
def replA (l : List AV) : Nat → List AV
  | 0 => []
  | n + 1 => l ++ replA l n
/-- A bound that may be left out. -/
def orNat (d : Nat) : Option AV → Option Nat
  | none => some d
  | some v => natOf v
/-- The bounds of a cut: low, high, the most. -/
def boundsA (len : Nat) (lo hi mx : Option AV) : Option (Nat × Nat × Nat) :=
  match orNat len mx with
  | none => none
  | some m => match orNat len hi with
    | none => none
    | some h => match orNat 0 lo with
      | none => none
      | some l => if m ≤ len ∧ h ≤ m ∧ l ≤ h ∧ (mx.isSome = true → hi.isSome = true) then some (l, h, m) else none
def optA (F : Fr) : Option Operand → Option (Option AV)
  | none => some none
  | some x => match opA F x with
    | some v => some (some v)
    | none => none
def sliceA (E : Env) (t : TypeId) (x : AV) (lo hi mx : Option AV) : Option AV :=
  match E.ty.get t with
  | none => none
  | some i => match i.kind, x with
    | .str, .str s => match mx with
      | some _ => none
      | none => match boundsA s.length lo hi none with
        | some (l, h, _) => some (.str ((s.take h).drop l))
        | none => none
    | .slice e, .nilslice => match E.ty.get e with
      | some _ => match boundsA 0 lo hi mx with
        | some _ => some .nilslice
        | none => none
      | none => none
    | .slice e, .slice b o len es full => match E.ty.get e with
      | some i => if i.size = es then match boundsA len lo hi mx with
        | some (l, h, m) => some (.slice b (o + l * es) (h - l) es (if mx.isSome then h == m else full && h == len))
        | none => none
        else none
      | none => none
    | _, _ => none
def fieldOf (E : Env) (t : TypeId) (f : Nat) : Option (Nat × TI) :=
  match E.ty.get t with
  | some i => match i.kind with
    | .struct fs => match fs[f]? with
      | some (o, ft) => match E.ty.get ft with
        | some i => if i.size = 0 then none else some (o, i)
        | none => none
      | none => none
    | _ => none
  | none => none
def lenA (E : Env) (t : TypeId) (x : AV) : Option Nat :=
  match E.ty.get t with
  | none => none
  | some i => match i.kind, x with
    | .str, .str s => some s.length
    | .slice _, .nilslice => some 0
    | .slice _, .slice _ _ n _ _ => some n
    | _, _ => none
def bytesA (s : List UInt8) : List AV := s.map fun c => .int .u8 c.toNat
def strOfA : List AV → Option (List UInt8)
  | [] => some []
  | x :: l => match x with
    | .int .u8 n => match strOfA l with
      | some r => some (UInt8.ofNat n.toNat :: r)
      | none => none
    | _ => none
/-- What a slice has room for, where it is known. -/
def capA (E : Env) (t : TypeId) (x : AV) : Option Nat :=
  match E.ty.get t with
  | none => none
  | some i => match i.kind, x with
    | .slice _, .nilslice => some 0
    | .slice _, .slice _ _ n _ true => some n
    | _, _ => none
/-- What is appended, or copied: how many elements, and their cells. -/
def addedA (E : Env) (t : TypeId) (size : Nat) (x : AV) (H : AH) : Option (Nat × List AV) :=
  match E.ty.get t with
  | none => none
  | some i => match i.kind, x with
    | .str, .str s => if size = 1 then some (s.length, bytesA s) else none
    | .slice _, .nilslice => some (0, [])
    | .slice _, .slice b o n es _ => if es = size then match loadA H b o (n * size) with
      | some l => some (n, l)
      | none => none
      else none
    | _, _ => none
def dropIf (full : Bool) (bs : Tr Blk) (b : Nat) : Tr Blk := match full with
  | true => bs
  | false => bs.del b
def growA (H : AH) (b o m n size : Nat) (full : Bool) (l : List AV) : Option R :=
  match H.bs.get b with
  | none => none
  | some k =>
    if o + m * size ≤ k.len then
      match o with
      | 0 => some (.val (.slice H.n 0 (m + n) size false) ⟨H.n + 1, (dropIf full H.bs b).set H.n ⟨m * size + l.length, k.cells.put (m * size) l⟩⟩)
      | _ => match k.cells.take o (m * size) with
        | some old => some (.val (.slice H.n 0 (m + n) size false) ⟨H.n + 1, (dropIf full H.bs b).set H.n ⟨m * size + l.length, Tr.nil.put 0 (old ++ l)⟩⟩)
        | none => none
    else none
def appendE (E : Env) (i : TI) (s : AV) (n : Nat) (l : List AV) (H : AH) : Option R :=
  match n with
  | 0 => match s with
    | .nilslice => some (.val s H)
    | .slice _ _ _ _ _ => some (.val s H)
    | _ => none
  | _ => match i.zero with
    | none => none
    | some z => if z.length = i.size ∧ l.all okc then
      match s with
      | .nilslice => if n * (i.bytes + 1) ≤ 1073741824 then match H.new l with
          | some H' => some (.val (.slice H.n 0 n i.size false) H')
          | none => none
        else none
      | .slice b o m es full => if es = i.size ∧ (m + n) * (i.bytes + 1) ≤ 1073741824 then growA H b o m n i.size full l else none
      | _ => none
      else none
def isIntTy (ty : Tr TI) (u : TypeId) : Bool := match ty.get u with
  | some i => match i.kind with
    | .int _ => true
    | _ => false
  | none => false
def isIntT (E : Env) (u : TypeId) : Bool := isIntTy E.ty u
/-- So many zeros, onto nothing. -/
def zerosA (i : TI) (s x : AV) (H : AH) : Option R :=
  match s, x with
  | .nilslice, .int _ (.ofNat n) => match i.zero with
    | some z => if 0 < n ∧ z.length = i.size ∧ n ≤ 1000000 ∧ n * (i.bytes + 1) ≤ 1073741824 then match H.new (replA z n) with
        | some H' => some (.val (.slice H.n 0 n i.size false) H')
        | none => none
      else none
    | none => none
  | _, _ => none
def appendA (E : Env) (t u : TypeId) (s x : AV) (H : AH) : Option R :=
  match E.ty.get t with
  | some i => match i.kind with
    | .slice e => match E.ty.get e with
      | some i => match isIntT E u with
        | true => zerosA i s x H
        | false => match addedA E u i.size x H with
          | none => none
          | some (n, l) => appendE E i s n l H
      | none => none
    | _ => none
  | none => none
def copyA (E : Env) (t u : TypeId) (d s : AV) (H : AH) : Option R :=
  match E.ty.get t with
  | some i => match i.kind with
    | .slice e => match E.ty.get e with
      | some i => match addedA E u i.size s H with
        | none => none
        | some (m, l) => match d with
          | .nilslice => some (.val (.int .i64 0) H)
          | .slice b o n es _ => if es = i.size then match storeA H b o (l.take ((Nat.min m n) * i.size)) with
              | some H' => some (.val (.int .i64 (Nat.min m n : Nat)) H')
              | none => none
            else none
          | _ => none
      | none => none
    | _ => none
  | none => none
def lessA (E : Env) (x y : AV) : Option Bool :=
  match linOf x with
  | some (k, p) => match linOf y with
    | some (k', q) => if k = k' then match linOp E .lss k p q with
        | some (.bool b) => some b
        | _ => none
      else none
    | none => none
  | none => none
/-- The least, the greatest. -/
def bestA (E : Env) (mx : Bool) : AV → List AV → Option AV
  | x, [] => some x
  | x, y :: l => match (match mx with
      | true => lessA E x y
      | false => lessA E y x) with
    | some true => bestA E mx y l
    | some false => bestA E mx x l
    | none => none
def convI (E : Env) (k : IntKind) (x : AV) (H : AH) : Option R :=
  match x with
  | .int _ n => some (.val (.int k (wrapF k n)) H)
  | .lin _ i a c => match (Lin.mk i a c).val E k with
    | some v => some (.val v H)
    | none => none
  | _ => none
def convB (E : Env) (e : TypeId) (x : AV) (H : AH) : Option R :=
  match E.ty.get e with
  | some i => match i.kind, x with
    | .int .u8, .str s => if i.size = 1 then match H.new (bytesA s) with
        | some H' => some (.val (.slice H.n 0 s.length 1 false) H')
        | none => none
      else none
    | _, _ => none
  | none => none
def convS (E : Env) (sk : TK) (x : AV) (H : AH) : Option R :=
  match x with
  | .str s => some (.val (.str s) H)
  | x => match sk with
    | .slice e => match E.ty.get e with
      | some i => match i.kind, x with
        | .int .u8, .nilslice => some (.val (.str []) H)
        | .int .u8, .slice b o n 1 _ => match loadA H b o n with
          | some l => match strOfA l with
            | some s => some (.val (.str s) H)
            | none => none
          | none => none
        | _, _ => none
      | none => none
    | _ => none
def convA (E : Env) (src dst : TypeId) (x : AV) (H : AH) : Option R :=
  match E.ty.get src with
  | none => none
  | some si => match E.ty.get dst with
    | none => none
    | some di => match di.kind with
      | .int k => convI E k x H
      | .slice e => match si.kind with
        | .str => convB E e x H
        | _ => none
      | .str => convS E si.kind x H
      | _ => none
def callA (fv : AV) (args : List AV) (H : AH) : Option R :=
  match fv with
  | .func f first cap => some (.call f (first ++ args ++ cap) H)
  | _ => none
def partsA (F : Fr) : List (Nat × Operand) → Option (List (Nat × AV))
  | [] => some []
  | (j, x) :: l => match opA F x with
    | some v => match partsA F l with
      | some r => some ((j, v) :: r)
      | none => none
    | none => none
def placeA (E : Env) (fs : List (Nat × TypeId)) : List (Nat × AV) → Option (List (Nat × List AV))
  | [] => some []
  | (j, v) :: l => match fs[j]? with
    | some (o, ft) => match E.ty.get ft with
      | some i => if v.cells.length = i.size then match placeA E fs l with
          | some r => some ((o, v.cells) :: r)
          | none => none
        else none
      | none => none
    | none => none
def placeS (size : Nat) : List (Nat × AV) → Option (List (Nat × List AV))
  | [] => some []
  | (j, v) :: l => if v.cells.length = size then match placeS size l with
      | some r => some ((j * size, v.cells) :: r)
      | none => none
    else none
def vR (H : AH) : Option AV → Option R
  | some v => some (.val v H)
  | none => none
def newR (H : AH) (l : List AV) (v : AV) : Option R :=
  match H.new l with
  | some H' => some (.val v H')
  | none => none
def pickX (F : Fr) (c a b : Operand) (H : AH) : Option R :=
  match opA F c with
  | some (.bool t) => match t with
    | true => vR H (opA F a)
    | false => vR H (opA F b)
  | _ => none
def allocX (E : Env) (t : TypeId) (H : AH) : Option R :=
  match E.ty.get t with
  | some i => match i.zero with
    | some z => newR H z (.ptr H.n 0)
    | none => none
  | none => none
def boxX (F : Fr) (x : Operand) (H : AH) : Option R :=
  match opA F x with
  | some v => newR H v.cells (.ptr H.n 0)
  | none => none
def fillR (H : AH) (z : List AV) : Option (List (Nat × List AV)) → Option R
  | some l => match fillA z l with
    | some cs => some (.val (.agg cs) H)
    | none => none
  | none => none
def buildX (E : Env) (F : Fr) (t : TypeId) (parts : List (Nat × Operand)) (H : AH) : Option R :=
  match E.ty.get t with
  | some i => match i.zero, partsA F parts with
    | some z, some ps => match i.kind with
      | .struct fs => if i.kind.isAgg then fillR H z (placeA E fs ps) else none
      | .array _ e => match E.ty.get e with
        | some j => fillR H z (placeS j.size ps)
        | none => none
      | _ => none
    | _, _ => none
  | none => none
def buildSliceX (E : Env) (F : Fr) (t : TypeId) (len : Nat) (parts : List (Nat × Operand)) (H : AH) : Option R :=
  match E.ty.get t with
  | some i => match i.kind with
    | .slice e => match E.ty.get e with
      | some j => match j.zero, partsA F parts with
        | some z, some ps => if z.length = j.size ∧ len * j.size ≤ 16777216 then match placeS j.size ps with
            | some l => match fillA (replA z len) l with
              | some cs => newR H cs (.slice H.n 0 len j.size true)
              | none => none
            | none => none
          else none
        | _, _ => none
      | none => none
    | _ => none
  | none => none
def loadX (E : Env) (F : Fr) (t : TypeId) (a : Operand) (H : AH) : Option R :=
  match opA F a with
  | some p => vR H (loadT E t p H)
  | none => none
def storeX (E : Env) (F : Fr) (t : TypeId) (a x : Operand) (H : AH) : Option R :=
  match opA F a with
  | some (.ptr b off) => match opA F x, E.ty.get t with
    | some v, some i => if v.cells.length = i.size then match storeA H b off v.cells with
        | some H' => some (.skip H')
        | none => none
      else none
    | _, _ => none
  | _ => none
def nilCheckX (F : Fr) (x : Operand) (H : AH) : Option R :=
  match opA F x with
  | some v => match v with
    | .ptr _ _ => some (.val v H)
    | .func _ _ _ => some (.val v H)
    | .iface _ _ => some (.val v H)
    | .glob _ => some (.val v H)
    | _ => none
  | none => none
def isK : Operand → Bool
  | .const _ => true
  | _ => false
def isIfc (ty : Tr TI) (t : TypeId) : Bool := match ty.get t with
  | some i => match i.kind with
    | .iface => true
    | _ => false
  | none => false
def nilOp : BinOp → Option AV
  | .eql => some (.bool true)
  | .neq => some (.bool false)
  | _ => none
/-- Nothing, held against a word for nothing. -/
def nilB (E : Env) (op : BinOp) (t : TypeId) (x y : Operand) (a b : AV) : Option AV :=
  match a, b with
  | .nilIface, .nilIface => bif (isK x || isK y) && isIfc E.ty t then nilOp op else none
  | _, _ => none
def binX (E : Env) (F : Fr) (op : BinOp) (t : TypeId) (x y : Operand) (H : AH) : Option R :=
  match opA F x with
  | some a => match opA F y with
    | some b => match nilB E op t x y a b with
      | some v => some (.val v H)
      | none => vR H (binA E op t a b)
    | none => none
  | none => none
def unX (E : Env) (F : Fr) (op : UnOp) (x : Operand) (H : AH) : Option R :=
  match opA F x with
  | some a => vR H (unA E op a)
  | none => none
def convX (E : Env) (F : Fr) (s d : TypeId) (x : Operand) (H : AH) : Option R :=
  match opA F x with
  | some a => convA E s d a H
  | none => none
def ifaceX (E : Env) (F : Fr) (t : TypeId) (x : Operand) (H : AH) : Option R :=
  match opA F x with
  | some a => match E.ty.get t with
    | some i => match i.kind with
      | .iface => none
      | _ => some (.val (.iface t a) H)
    | none => none
  | none => none
def funcX (F : Fr) (f : FuncId) (first cap : List Operand) (H : AH) : Option R :=
  match opsA F first with
  | some a => match opsA F cap with
    | some b => some (.val (.func f a b) H)
    | none => none
  | none => none
def makeSliceX (E : Env) (F : Fr) (t : TypeId) (l c : Operand) (H : AH) : Option R :=
  match E.ty.get t with
  | some i => match i.kind with
    | .slice e => match E.ty.get e, opA F l, opA F c with
      | some j, some lv, some cv => match j.zero, natOf lv, natOf cv with
        | some z, some n, some m => if n = m ∧ n * (j.bytes + j.size + 1) ≤ 1000000 ∧ z.length = j.size then newR H (replA z n) (.slice H.n 0 n j.size true) else none
        | _, _, _ => none
      | _, _, _ => none
    | _ => none
  | none => none
def sliceX (E : Env) (F : Fr) (t : TypeId) (x : Operand) (lo hi mx : Option Operand) (H : AH) : Option R :=
  match opA F x with
  | some a => match optA F lo, optA F hi, optA F mx with
    | some l, some h, some m => vR H (sliceA E t a l h m)
    | _, _, _ => none
  | none => none
def fieldAddrX (E : Env) (F : Fr) (t : TypeId) (x : Operand) (f : Nat) (H : AH) : Option R :=
  match opA F x with
  | some (.ptr b off) => match fieldOf E t f with
    | some (q, _) => some (.val (.ptr b (off + q)) H)
    | none => none
  | _ => none
def fieldX (E : Env) (F : Fr) (t : TypeId) (x : Operand) (f : Nat) (H : AH) : Option R :=
  match opA F x with
  | some (.agg cs) => match fieldOf E t f with
    | some (q, i) => vR H (partA i cs q)
    | none => none
  | _ => none
def indexAddrX (E : Env) (F : Fr) (t : TypeId) (x ix : Operand) (H : AH) : Option R :=
  match E.ty.get t, opA F x, opA F ix with
  | some i, some v, some j => match natOf j, i.kind, v with
    | some n, .slice e, .slice b off len es _ => match E.ty.get e with
      | some i => if n < len ∧ i.size = es then some (.val (.ptr b (off + n * es)) H) else none
      | none => none
    | some n, .array len e, .ptr b off => match E.ty.get e with
      | some i => if n < len then some (.val (.ptr b (off + n * i.size)) H) else none
      | none => none
    | _, _, _ => none
  | _, _, _ => none
def indexX (E : Env) (F : Fr) (t : TypeId) (x ix : Operand) (H : AH) : Option R :=
  match E.ty.get t, opA F x, opA F ix with
  | some i, some v, some j => match natOf j, i.kind, v with
    | some n, .str, .str s => match s[n]? with
      | some c => some (.val (.int .u8 c.toNat) H)
      | none => none
    | some n, .array len e, .agg cs => match E.ty.get e with
      | some i => if n < len then vR H (partA i cs (n * i.size)) else none
      | none => none
    | _, _, _ => none
  | _, _, _ => none
def assertX (E : Env) (F : Fr) (x : Operand) (asserted : TypeId) (ok : Bool) (H : AH) : Option R :=
  match opA F x with
  | some (.iface t v) => match E.ty.get asserted with
    | some i => match i.kind with
      | .iface => none
      | _ => if t = asserted then some (.val (match ok with
          | true => .tup [v, .bool true]
          | false => v) H) else none
    | none => none
  | _ => none
def extractX (F : Fr) (x : Operand) (j : Nat) (H : AH) : Option R :=
  match opA F x with
  | some (.tup l) => vR H (l[j]?)
  | _ => none
def clearX (E : Env) (t : TypeId) (x : AV) (H : AH) : Option R :=
  match E.ty.get t with
  | some i => match i.kind with
    | .slice e => match E.ty.get e with
      | some j => match j.zero, x with
        | _, .nilslice => some (.val (.tup []) H)
        | some z, .slice b off n es _ => if es = j.size ∧ z.length = j.size then match storeA H b off (replA z n) with
            | some H' => some (.val (.tup []) H')
            | none => none
          else none
        | _, _ => none
      | none => none
    | _ => none
  | none => none
def builtinX (E : Env) (b : Builtin) (ts : Array TypeId) (xs : List AV) (H : AH) : Option R :=
  match b with
  | .len => match ts[0]?, xs with
    | some t, [x] => match lenA E t x with
      | some n => some (.val (.int .i64 n) H)
      | none => none
    | _, _ => none
  | .append => match ts.toList, xs with
    | [t, u], [s, x] => appendA E t u s x H
    | _, _ => none
  | .cap => match ts[0]?, xs with
    | some t, [x] => match capA E t x with
      | some n => some (.val (.int .i64 n) H)
      | none => none
    | _, _ => none
  | .min => match xs with
    | x :: l => vR H (bestA E false x l)
    | _ => none
  | .max => match xs with
    | x :: l => vR H (bestA E true x l)
    | _ => none
  | .clear => match ts.toList, xs with
    | [t], [x] => clearX E t x H
    | _, _ => none
  | _ => none
def callX (E : Env) (F : Fr) (c : Call) (H : AH) : Option R :=
  match opsA F c.args.toList with
  | none => none
  | some xs => match c.callee with
    | .value f => match opA F f with
      | some fv => callA fv xs H
      | none => none
    | .invoke _ _ => none
    | .builtin b => builtinX E b c.argTypes xs H
def exOp (E : Env) (F : Fr) (o : Op) (H : AH) : Option R :=
  match o with
  | .move x => vR H (opA F x)
  | .assign x => vR H (opA F x)
  | .pick c a b => pickX F c a b H
  | .alloc t => allocX E t H
  | .box _ x => boxX F x H
  | .build t parts => buildX E F t parts.toList H
  | .buildSlice t len parts => buildSliceX E F t len parts.toList H
  | .load t a => loadX E F t a H
  | .store t a x => storeX E F t a x H
  | .nilCheck x => nilCheckX F x H
  | .binOp op t x y _ => binX E F op t x y H
  | .unOp op _ x => unX E F op x H
  | .convert s d x => convX E F s d x H
  | .makeInterface t x => ifaceX E F t x H
  | .makeFunc f first cap => match f with
    | .func f => funcX F f first.toList cap.toList H
    | _ => none
  | .makeSlice t l c => makeSliceX E F t l c H
  | .slice t x lo hi mx => sliceX E F t x lo hi mx H
  | .fieldAddr t x f => fieldAddrX E F t x f H
  | .field t x f => fieldX E F t x f H
  | .indexAddr t x ix => indexAddrX E F t x ix H
  | .index t x ix => indexX E F t x ix H
  | .typeAssert x _ asserted ok => assertX E F x asserted ok H
  | .extract x j => extractX F x j H
  | .call c => callX E F c H
  | _ => none

/-! ### Code -/
inductive Ext where
  | normal
  | exit (id : Nat)
  | ret
structure St where
  F : Fr
  H : AH
abbrev CallF := FuncId → List AV → AH → Option (AV × AH)
def putA (nt : Nat) (F : Fr) (d : Option Tmp) (v : AV) : Option Fr :=
  match d with
  | none => some F
  | some t => if t < nt then some (F.set t v) else none
def wantedA (ops : Array Oper) (F : Fr) (o : Oper) : Option Bool :=
  match o.guard with
  | none => some true
  | some (j, want) => match ops[j]? with
    | some g => match g.dst with
      | some t => match tmpA F t with
        | .bool b => some (b == want)
        | .tup _ => some false
        | _ => none
      | none => some false
    | none => some false
/-- What an operation gives is put into its slot, its call gone through. -/
def finA (call : CallF) (nt : Nat) (F : Fr) (d : Option Tmp) (r : R) : Option St :=
  match r with
  | .val v H' => match putA nt F d v with
    | some F' => some ⟨F', H'⟩
    | none => none
  | .skip H' => match putA nt F d (.tup []) with
    | some F' => some ⟨F', H'⟩
    | none => none
  | .call f args H' => match call f args H' with
    | some (v, H'') => match putA nt F d v with
      | some F' => some ⟨F', H''⟩
      | none => none
    | none => none
def exOne (E : Env) (call : CallF) (nt : Nat) (ops : Array Oper) (o : Oper) (F : Fr) (H : AH) : Option St :=
  match wantedA ops F o with
  | some true => match exOp E F o.op H with
    | some r => finA call nt F o.dst r
    | none => none
  | some false => match putA nt F o.dst (.tup []) with
    | some F' => some ⟨F', H⟩
    | none => none
  | none => none
/-- A quiet function is deferred. -/
def deferA (E : Env) (F : Fr) (o : Oper) : Bool := match o.op, o.guard, o.dst with
  | .defer c, none, none => match c.callee, c.args.toList with
    | .value f, [] => match opA F f with
      | some (.func g [] [_]) => E.quiet g
      | _ => false
    | _, _ => false
  | _, _, _ => false
def exList (E : Env) (call : CallF) (nt : Nat) (ops : Array Oper) : List Oper → Fr → AH → Option St
  | [], F, H => some ⟨F, H⟩
  | o :: l, F, H => match exOne E call nt ops o F H with
    | some s => exList E call nt ops l s.F s.H
    | none => match deferA E F o with
      | true => exList E call nt ops l F H
      | false => none

/-! ### A region whose order is open -/
inductive OK where
  | pure
  | load (t : TypeId) (a : Operand)
  | alloc
  | spine
def okOf (ty : Tr TI) : Op → OK
  | .convert _ d _ => match isIntTy ty d with
    | true => .pure
    | false => .spine
  | .move _ => .pure
  | .assign _ => .pure
  | .pick _ _ _ => .pure
  | .build _ _ => .pure
  | .nilCheck _ => .pure
  | .binOp _ _ _ _ _ => .pure
  | .unOp _ _ _ => .pure
  | .makeInterface _ _ => .pure
  | .makeFunc _ _ _ => .pure
  | .slice _ _ _ _ _ => .pure
  | .fieldAddr _ _ _ => .pure
  | .field _ _ _ => .pure
  | .indexAddr _ _ _ => .pure
  | .index _ _ _ => .pure
  | .typeAssert _ _ _ _ => .pure
  | .extract _ _ => .pure
  | .load t a => .load t a
  | .alloc _ => .alloc
  | .box _ _ => .alloc
  | .buildSlice _ _ _ => .alloc
  | .makeSlice _ _ _ => .alloc
  | .call c => match c.callee with
    | .builtin .len => .pure
    | .builtin .min => .pure
    | .builtin .max => .pure
    | _ => .spine
  | _ => .spine
def slotsOf1 : Operand → List Tmp
  | .tmp t => [t]
  | _ => []
def slotsOf : List Operand → List Tmp
  | [] => []
  | x :: l => slotsOf1 x ++ slotsOf l
def slotsO : Option Operand → List Tmp
  | none => []
  | some x => slotsOf1 x
def slotsP : List (Nat × Operand) → List Tmp
  | [] => []
  | (_, x) :: l => slotsOf1 x ++ slotsP l
/-- The slots that an operation reads. -/
def readsOf : Op → List Tmp
  | .move x => slotsOf1 x
  | .assign x => slotsOf1 x
  | .pick a b c => slotsOf [a, b, c]
  | .alloc _ => []
  | .box _ x => slotsOf1 x
  | .build _ ps => slotsP ps.toList
  | .buildSlice _ _ ps => slotsP ps.toList
  | .load _ a => slotsOf1 a
  | .store _ a x => slotsOf [a, x]
  | .nilCheck x => slotsOf1 x
  | .binOp _ _ x y _ => slotsOf [x, y]
  | .unOp _ _ x => slotsOf1 x
  | .convert _ _ x => slotsOf1 x
  | .makeInterface _ x => slotsOf1 x
  | .makeFunc _ a b => slotsOf a.toList ++ slotsOf b.toList
  | .makeSlice _ l c => slotsOf [l, c]
  | .slice _ x a b c => slotsOf1 x ++ (slotsO a ++ (slotsO b ++ slotsO c))
  | .fieldAddr _ x _ => slotsOf1 x
  | .field _ x _ => slotsOf1 x
  | .indexAddr _ x y => slotsOf [x, y]
  | .index _ x y => slotsOf [x, y]
  | .typeAssert x _ _ _ => slotsOf1 x
  | .extract x _ => slotsOf1 x
  | .call c => slotsOf c.args.toList ++ (match c.callee with
    | .value f => slotsOf1 f
    | _ => [])
  | _ => []

/-- What waits for what, as a number's bits. -/
def edgesOf (o : Oper) : List Nat := (o.after.toList.filter (Region.binds .any)).map (·.on)
def bitOf (i : Nat) : Nat := Nat.shiftLeft 1 i
def maskOf (acc : List Nat) : List Nat → Nat
  | [] => 0
  | p :: l => Nat.lor (Nat.lor (bitOf p) (acc.getD p 0)) (maskOf acc l)
def bitsOf : List Nat → Nat
  | [] => 0
  | p :: l => Nat.lor (bitOf p) (bitsOf l)
def masks : List Oper → List Nat → List Nat
  | [], acc => acc
  | o :: l, acc => masks l (acc ++ [maskOf acc (edgesOf o)])
def isSpine (ty : Tr TI) (o : Oper) : Bool := match okOf ty o.op with
  | .spine => true
  | _ => false
/-- Is each bit of a number one of the other's? -/
def within (a b : Nat) : Bool := Nat.beq (Nat.lor a b) b
def chk (ty : Tr TI) (ops : Array Oper) (ms : List Nat) : List Nat → Nat → Bool
  | [], seen => Nat.beq (seen + 1) (Nat.shiftLeft 1 ops.size)
  | i :: l, seen => match ops[i]? with
    | none => false
    | some o => within (bitsOf (edgesOf o)) seen && !(Nat.testBit seen i) && (!(isSpine ty o) || within seen (ms.getD i 0)) && chk ty ops ms l (Nat.lor seen (bitOf i))
/-- Is a slot's writer, if it is another one, ordered with who reads it? -/
def ordOne (ms : List Nat) (j : Nat) (t : Tmp) : List Oper → Nat → Bool
  | [], _ => true
  | o :: l, i => (match o.dst with
    | none => true
    | some d => !(Nat.beq d t) || Nat.beq i j || Nat.testBit (ms.getD j 0) i || Nat.testBit (ms.getD i 0) j) && ordOne ms j t l (i + 1)
def guardReads (ops : Array Oper) (o : Oper) : List Tmp := match o.guard with
  | none => []
  | some (g, _) => match ops[g]? with
    | some p => match p.dst with
      | some t => [t]
      | none => []
    | none => []
def allReads (ops : Array Oper) (o : Oper) : List Tmp := guardReads ops o ++ readsOf o.op
def ordAll (ops : Array Oper) (ms : List Nat) : List Oper → Nat → Bool
  | [], _ => true
  | o :: l, j => ((allReads ops o).all fun t => ordOne ms j t ops.toList 0) && ordAll ops ms l (j + 1)
def dstsOf : List Oper → List Tmp
  | [] => []
  | o :: l => match o.dst with
    | some t => t :: dstsOf l
    | none => dstsOf l
def nodupB : List Nat → Bool
  | [] => true
  | t :: l => !(l.any (Nat.beq t)) && nodupB l
/-- The order: each one that acts as early as it may, all that it waits for just ahead of it. -/
def emit (m : Nat) : Nat → Nat → Nat → List Nat
  | 0, _, _ => []
  | n + 1, i, seen => if Nat.testBit m i && !(Nat.testBit seen i) then i :: emit m n (i + 1) seen else emit m n (i + 1) seen
def canon (ty : Tr TI) (n : Nat) (ms : List Nat) : List Oper → Nat → Nat → List Nat
  | [], _, seen => emit (Nat.shiftLeft 1 n - 1) n 0 seen
  | o :: l, i, seen => match isSpine ty o with
    | true => emit (ms.getD i 0) i 0 seen ++ i :: canon ty n ms l (i + 1) (Nat.lor seen (Nat.lor (ms.getD i 0) (bitOf i)))
    | false => canon ty n ms l (i + 1) seen
def ageOf (m : Nat) : List Nat → Nat
  | [] => 0
  | c :: l => match Nat.testBit m c with
    | true => 0
    | false => ageOf m l + 1
def spineAt (ty : Tr TI) (ops : Array Oper) (i : Nat) : Bool := match ops[i]? with
  | some o => isSpine ty o
  | none => false
/-- With each, how many elder memories its read is held against. -/
def withAge (ty : Tr TI) (ops : Array Oper) (ms : List Nat) : List Nat → List Nat → List (Nat × Nat)
  | [], _ => []
  | i :: l, sps => (i, ageOf (ms.getD i 0) sps) :: withAge ty ops ms l (match spineAt ty ops i with
    | true => i :: sps
    | false => sps)
def planOf (ty : Tr TI) (ops : Array Oper) : Option (List (Nat × Nat)) :=
  let ms := masks ops.toList []
  let L := canon ty ops.size ms ops.toList 0 0
  if chk ty ops ms L 0 && ordAll ops ms ops.toList 0 && nodupB (dstsOf ops.toList) then some (withAge ty ops ms L []) else none

mutual
def eqAV : AV → AV → Bool
  | .int k a, .int k' b => decide (k = k') && decide (a = b)
  | .lin k i a c, .lin k' i' a' c' => decide (k = k') && decide (i = i') && decide (a = a') && decide (c = c')
  | .bool a, .bool b => a == b
  | .str a, .str b => decide (a = b)
  | .ptr a b, .ptr a' b' => decide (a = a') && decide (b = b')
  | .nilptr, .nilptr => true
  | .slice a b c d e, .slice a' b' c' d' e' => decide (a = a') && decide (b = b') && decide (c = c') && decide (d = d') && e == e'
  | .nilslice, .nilslice => true
  | .func f a b, .func f' a' b' => decide (f = f') && eqAVs a a' && eqAVs b b'
  | .nilFunc, .nilFunc => true
  | .iface t v, .iface t' v' => decide (t = t') && eqAV v v'
  | .nilIface, .nilIface => true
  | .agg l, .agg l' => eqAVs l l'
  | .tup l, .tup l' => eqAVs l l'
  | .glob g, .glob g' => decide (g = g')
  | .opq i, .opq j => decide (i = j)
  | _, _ => false
def eqAVs : List AV → List AV → Bool
  | [], [] => true
  | x :: l, y :: r => eqAV x y && eqAVs l r
  | _, _ => false
end
/-- Was it so in each of the elder memories, too? -/
def wasSo (E : Env) (t : TypeId) (p v : AV) (ini : Tr Blk) : List AH → Bool
  | [] => true
  | h :: l => (match (match p with
    | .ptr b _ => (match h.bs.get b with
      | some _ => loadT E t p h
      | none => if h.n ≤ b then loadT E t p ⟨0, ini⟩ else none)
    | _ => loadT E t p h) with
    | some u => eqAV u v
    | none => false) && wasSo E t p v ini l
def exDraw (E : Env) (call : CallF) (nt : Nat) (ops : Array Oper) : List (Nat × Nat) → Fr → AH → List AH → Tr Blk → Option St
  | [], F, H, _, _ => some ⟨F, H⟩
  | (i, d) :: l, F, H, past, ini => match ops[i]? with
    | none => none
    | some o => match exOne E call nt ops o F H with
      | none => none
      | some s => match okOf E.ty o.op with
        | .pure => exDraw E call nt ops l s.F s.H past ini
        | .spine => exDraw E call nt ops l s.F s.H (s.H :: past) ini
        | .alloc => exDraw E call nt ops l s.F s.H past (match wantedA ops F o with
          | some true => (match s.H.bs.get H.n with
            | some k => ini.set H.n k
            | none => ini)
          | _ => ini)
        | .load t a => match d with
          | 0 => exDraw E call nt ops l s.F s.H past ini
          | _ => match (match wantedA ops F o with
              | some false => true
              | none => false
              | some true => match opA F a with
                | some p => match loadT E t p H with
                  | some v => wasSo E t p v ini (past.tail.take d)
                  | none => false
                | none => false) with
            | true => exDraw E call nt ops l s.F s.H past ini
            | false => none
/-- Does a list hold all numbers below another? -/
def holdsTo : Nat → List Nat → Bool
  | 0, _ => true
  | n + 1, l => l.any (Nat.beq n) && holdsTo n l
/-- The last three: a place is found, and two are written, the order of the two is open. -/
def tailOk (ty : Tr TI) (m : Nat) (p q r : Oper) : Bool := match p.guard, q.guard, r.guard, p.dst, q.dst, r.dst with
  | none, none, none, some t, none, none => match okOf ty p.op, q.op, r.op with
    | .pure, .store _ _ _, .store _ a x => holdsTo m (edgesOf p) && holdsTo (m + 1) (edgesOf q) && holdsTo m (edgesOf r) && !((slotsOf [a, x]).any (Nat.beq t))
    | _, _, _ => false
  | _, _, _, _, _, _ => false
def wellIn (m : Nat) : List Oper → Bool
  | [] => true
  | o :: l => (match o.guard with
    | none => true
    | some (j, _) => Nat.blt j m) && wellIn m l
/-- Does each wait for elder ones alone? -/
def fwd : Nat → List Oper → Bool
  | _, [] => true
  | i, o :: l => (edgesOf o).all (Nat.blt · i) && fwd (i + 1) l
def blockOf (F : Fr) : Op → Option Nat
  | .store _ a _ => match opA F a with
    | some (.ptr b _) => some b
    | _ => none
  | _ => none
def exTail (E : Env) (call : CallF) (nt : Nat) (ops : Array Oper) (p q r : Oper) (F : Fr) (H : AH) : Option St :=
  match exOne E call nt ops p F H with
  | none => none
  | some s1 => match blockOf s1.F q.op, blockOf s1.F r.op with
    | some b, some c => match Nat.beq b c with
      | true => none
      | false => match exOne E call nt ops q s1.F s1.H with
        | none => none
        | some s2 => exOne E call nt ops r s2.F s2.H
    | _, _ => none
/-- A region in two: what stands ahead of the last three, and these. -/
def cutOf (ty : Tr TI) (ops : Array Oper) : Option (List (Nat × Nat) × Oper × Oper × Oper) :=
  match ops.size with
  | m + 3 => match ops[m]?, ops[m + 1]?, ops[m + 2]? with
    | some p, some q, some r => match tailOk ty m p q r && wellIn m (ops.toList.take m) && fwd 0 ops.toList with
      | true => match planOf ty (ops.extract 0 m) with
        | some L => some (L, p, q, r)
        | none => none
      | false => none
    | _, _, _ => none
  | _ => none
def exReg (E : Env) (call : CallF) (nt : Nat) (ops : Array Oper) (draw : Bool) (F : Fr) (H : AH) : Option St :=
  match draw with
  | false => exList E call nt ops ops.toList F H
  | true => match planOf E.ty ops with
    | some L => exDraw E call nt ops L F H [H] .nil
    | none => match cutOf E.ty ops with
      | some (L, p, q, r) => match exDraw E call nt (ops.extract 0 (ops.size - 3)) L F H [H] .nil with
        | some s => exTail E call nt ops p q r s.F s.H
        | none => none
      | none => none

def resultsA (E : Env) (F : Fr) (H : AH) : List ResultVar → Option (List AV)
  | [] => some []
  | .tmp t :: l => match resultsA E F H l with
    | some r => some (tmpA F t :: r)
    | none => none
  | .cell a t :: l => match tmpA F a with
    | .ptr b o => match loadT E t (.ptr b o) H with
      | some v => match resultsA E F H l with
        | some r => some (v :: r)
        | none => none
      | none => none
    | _ => none

/-! ### A range over a function -/
def isDefer : Op → Bool
  | .defer _ => true
  | _ => false
def noRange : Code → Bool
  | .region _ ops _ => ops.toList.all fun o => !isDefer o.op
  | .seq a b => noRange a && noRange b
  | .cond _ a b => noRange a && noRange b
  | .block _ a => noRange a
  | .loop a => noRange a
  | .scope a => noRange a
  | .rangeFunc _ _ _ _ => false
  | _ => true
abbrev RoundF := List AV → AH → Option (Ext × AH)
/-- An iterator's state: its own, and how a round was left that does not go on. -/
structure IS where
  F : Fr
  H : AH
  p : Option Ext
def pendOf : Ext → Option Ext
  | .normal => none
  | e => some e
def goesOn : Ext → Bool
  | .normal => true
  | _ => false
def yieldX (rounds : RoundF) (nt y : Nat) (ops : Array Oper) (o : Oper) (s : IS) : Option IS :=
  match wantedA ops s.F o, o.op, s.p with
  | some true, .call c, none => match c.callee with
    | .value f => match opA s.F f with
      | some (.yld z) => if z = y then
        match opsA s.F c.args.toList with
        | some xs => match rounds xs s.H with
          | some (e, H') => match putA nt s.F o.dst (.bool (goesOn e)) with
            | some F' => some ⟨F', H', pendOf e⟩
            | none => none
          | none => none
        | none => none
        else none
      | _ => none
    | _ => none
  | _, _, _ => none
def exIOne (E : Env) (call : CallF) (rounds : RoundF) (nt y : Nat) (ops : Array Oper) (o : Oper) (s : IS) : Option IS :=
  match exOne E call nt ops o s.F s.H with
  | some s' => some ⟨s'.F, s'.H, s.p⟩
  | none => yieldX rounds nt y ops o s
def exIList (E : Env) (call : CallF) (rounds : RoundF) (nt y : Nat) (ops : Array Oper) : List Oper → IS → Option IS
  | [], s => some s
  | o :: l, s => match exIOne E call rounds nt y ops o s with
    | some s' => exIList E call rounds nt y ops l s'
    | none => none
def exIC (E : Env) (call : CallF) (rounds : RoundF) (nt y : Nat) : Nat → Code → IS → Option (Ext × IS)
  | 0, _, _ => none
  | n + 1, c, s => match c with
    | .skip => some (.normal, s)
    | .region _ ops draw => match draw with
      | true => match exReg E call nt ops true s.F s.H with
        | some s' => some (.normal, ⟨s'.F, s'.H, s.p⟩)
        | none => none
      | false => match exIList E call rounds nt y ops ops.toList s with
        | some s' => some (.normal, s')
        | none => none
    | .seq x z => match exIC E call rounds nt y n x s with
      | some (.normal, s') => exIC E call rounds nt y n z s'
      | r => r
    | .cond b x z => match opA s.F b with
      | some (.bool t) => match t with
        | true => exIC E call rounds nt y n x s
        | false => exIC E call rounds nt y n z s
      | _ => none
    | .block id x => match exIC E call rounds nt y n x s with
      | some (.exit j, s') => some (if j = id then .normal else .exit j, s')
      | r => r
    | .loop x => match exIC E call rounds nt y n x s with
      | some (.normal, s') => exIC E call rounds nt y n (.loop x) s'
      | r => r
    | .exit id => some (.exit id, s)
    | .scope x => exIC E call rounds nt y n x s
    | .label _ => some (.normal, s)
    | .ret => some (.ret, s)
    | _ => none
def putAllA (nt : Nat) : Fr → List Tmp → List AV → Option Fr
  | F, [], [] => some F
  | F, p :: ps, v :: vs => if p < nt then putAllA nt (F.set p v) ps vs else none
  | _, _, _ => none
def roundA (ex : Code → Fr → AH → Option (Ext × St)) (nt : Nat) (F : Fr) (ps : List Tmp) (assign body : Code) : RoundF := fun args H =>
  match putAllA nt F ps args with
  | some F1 => match ex assign F1 H with
    | some (.normal, s1) => match ex body s1.F s1.H with
      | some (e, s2) => some (e, s2.H)
      | none => none
    | _ => none
  | none => none
/-- What the function that is ranged over does, with such rounds. -/
def iterA (E : Env) (call : CallF) (rounds : RoundF) (n : Nat) (gf : FuncId) (cap : List AV) (H : AH) : Option (Ext × AH) :=
  match E.fn.get gf with
  | none => none
  | some i => if i.ntmps < cap.length + 1 then none else
    match exIC E call rounds i.ntmps H.n n i.body ⟨Tr.nil.put 0 (.yld H.n :: cap), ⟨H.n + 1, H.bs⟩, none⟩ with
    | some (.exit _, _) => none
    | some (_, s) => match resultsA E s.F s.H i.results with
      | some _ => match s.p with
        | none => some (.normal, s.H)
        | some .normal => none
        | some e => some (e, s.H)
      | none => none
    | none => none
def exC (E : Env) (call : CallF) (nt : Nat) : Nat → Code → Fr → AH → Option (Ext × St)
  | 0, _, _, _ => none
  | n + 1, c, F, H => match c with
    | .skip => some (.normal, ⟨F, H⟩)
    | .region _ ops draw => match exReg E call nt ops draw F H with
      | some s => some (.normal, s)
      | none => none
    | .seq x y => match exC E call nt n x F H with
      | some (.normal, s) => exC E call nt n y s.F s.H
      | r => r
    | .cond b x y => match opA F b with
      | some (.bool t) => match t with
        | true => exC E call nt n x F H
        | false => exC E call nt n y F H
      | _ => none
    | .block id x => match exC E call nt n x F H with
      | some (.exit j, s) => some (if j = id then .normal else .exit j, s)
      | r => r
    | .loop x => match exC E call nt n x F H with
      | some (.normal, s) => exC E call nt n (.loop x) s.F s.H
      | r => r
    | .exit id => some (.exit id, ⟨F, H⟩)
    | .scope x => exC E call nt n x F H
    | .label _ => some (.normal, ⟨F, H⟩)
    | .ret => some (.ret, ⟨F, H⟩)
    | .rangeFunc g ps assign body => match noRange assign && noRange body with
      | false => none
      | true => match opA F g with
        | some (.func gf [] cap) => match iterA E call (roundA (exC E call nt n) nt F ps.toList assign body) n gf cap H with
          | some (e, H') => some (e, ⟨F, H'⟩)
          | none => none
        | _ => none
    | _ => none
def oneOr : List AV → AV
  | [v] => v
  | l => .tup l
def exF (E : Env) (L : Nat) : Nat → CallF
  | 0 => fun _ _ _ => none
  | n + 1 => fun f args H =>
    match E.hook f args H with
    | some r => some r
    | none => match E.fn.get f with
      | none => none
      | some i =>
        if i.ntmps < args.length then none else
        match exC E (exF E L n) i.ntmps L i.body (Tr.nil.put 0 args) H with
        | some (.exit _, _) => none
        | some (_, s) => match resultsA E s.F s.H i.results with
          | some l => some (oneOr l, s.H)
          | none => none
        | none => none
end Go.Proofs.YteopodohghnokaaGreatDoor.Ex
end
section
namespace Go.Proofs.YteopodohghnokaaGreatDoor.Ex
open Go
set_option linter.unusedVariables false

section
variable {α : Type}
theorem N8.sel_upd_same (n : N8 α) (i : Nat) (f : α → α) : (n.upd i f).sel i = f (n.sel i) := by
  obtain ⟨a0, a1, a2, a3, a4, a5, a6, a7⟩ := n
  rcases i with _ | _ | _ | _ | _ | _ | _ | i <;> rfl
theorem N8.sel_upd_ne (n : N8 α) {i j : Nat} (f : α → α) (hi : i < 8) (hj : j < 8) (h : i ≠ j) : (n.upd i f).sel j = n.sel j := by
  obtain ⟨a0, a1, a2, a3, a4, a5, a6, a7⟩ := n
  rcases i with _ | _ | _ | _ | _ | _ | _ | _ | i <;> rcases j with _ | _ | _ | _ | _ | _ | _ | _ | j <;> first | rfl | exact absurd rfl h | omega
theorem N8.sel_upd (n : N8 α) {i j : Nat} (f : α → α) (hi : i < 8) (hj : j < 8) : (n.upd i f).sel j = if i = j then f (n.sel j) else n.sel j := by
  split
  · subst_vars; exact N8.sel_upd_same _ _ _
  · exact N8.sel_upd_ne _ _ hi hj (by assumption)
theorem N8.sel_all (x : α) (i : Nat) : (N8.all x).sel i = x := by
  rcases i with _ | _ | _ | _ | _ | _ | _ | i <;> rfl
theorem blt_true {a b : Nat} (h : a < b) : Nat.blt a b = true := by unfold Nat.blt; rw [Nat.ble_eq]; exact h
theorem blt_false {a b : Nat} (h : ¬ a < b) : Nat.blt a b = false := by
  cases q : Nat.blt a b with
  | false => rfl
  | true => unfold Nat.blt at q; rw [Nat.ble_eq] at q; exact absurd q h
theorem lvl_cases (i : Nat) : (lvl i = 0 ∧ i < 8) ∨ (lvl i = 1 ∧ 8 ≤ i ∧ i < 64) ∨ (lvl i = 2 ∧ 64 ≤ i ∧ i < 512) ∨ (lvl i = 3 ∧ 512 ≤ i ∧ i < 4096) ∨ (lvl i = 4 ∧ 4096 ≤ i ∧ i < 32768) ∨ (lvl i = 5 ∧ 32768 ≤ i) := by
  unfold lvl
  by_cases h0 : i < 8
  · rw [blt_true h0]; exact .inl ⟨rfl, h0⟩
  · rw [blt_false h0]
    by_cases h1 : i < 64
    · rw [blt_true h1]; exact .inr (.inl ⟨rfl, by omega, h1⟩)
    · rw [blt_false h1]
      by_cases h2 : i < 512
      · rw [blt_true h2]; exact .inr (.inr (.inl ⟨rfl, by omega, h2⟩))
      · rw [blt_false h2]
        by_cases h3 : i < 4096
        · rw [blt_true h3]; exact .inr (.inr (.inr (.inl ⟨rfl, by omega, h3⟩)))
        · rw [blt_false h3]
          by_cases h4 : i < 32768
          · rw [blt_true h4]; exact .inr (.inr (.inr (.inr (.inl ⟨rfl, by omega, h4⟩))))
          · rw [blt_false h4]; exact .inr (.inr (.inr (.inr (.inr ⟨rfl, by omega⟩))))
theorem Tr.get_upd_same (t : Tr α) (i : Nat) (x : Option α) : (t.upd i x).get i = x := by
  rcases lvl_cases i with ⟨e, h⟩ | ⟨e, h⟩ | ⟨e, h⟩ | ⟨e, h⟩ | ⟨e, h⟩ | ⟨e, h⟩ <;> simp only [Tr.get, Tr.upd, e, N8.sel_upd_same]
  show (match Nat.beq i i with | true => x | false => _) = x
  rw [Nat.beq_refl]
theorem Tr.get_upd_ne (t : Tr α) {i j : Nat} (x : Option α) (h : i ≠ j) : (t.upd i x).get j = t.get j := by
  rcases lvl_cases i with ⟨e, h1⟩ | ⟨e, h1⟩ | ⟨e, h1⟩ | ⟨e, h1⟩ | ⟨e, h1⟩ | ⟨e, h1⟩ <;> rcases lvl_cases j with ⟨e', h2⟩ | ⟨e', h2⟩ | ⟨e', h2⟩ | ⟨e', h2⟩ | ⟨e', h2⟩ | ⟨e', h2⟩ <;> simp only [Tr.get, Tr.upd, e, e']
  · exact N8.sel_upd_ne _ _ h1 h2 h
  · rw [N8.sel_upd _ _ (by omega) (by omega)]
    split
    · rw [N8.sel_upd_ne _ _ (by omega) (by omega) (by omega)]
    · rfl
  · rw [N8.sel_upd _ _ (by omega) (by omega)]
    split
    · rw [N8.sel_upd _ _ (by omega) (by omega)]
      split
      · rw [N8.sel_upd_ne _ _ (by omega) (by omega) (by omega)]
      · rfl
    · rfl
  · rw [N8.sel_upd _ _ (by omega) (by omega)]
    split
    · rw [N8.sel_upd _ _ (by omega) (by omega)]
      split
      · rw [N8.sel_upd _ _ (by omega) (by omega)]
        split
        · rw [N8.sel_upd_ne _ _ (by omega) (by omega) (by omega)]
        · rfl
      · rfl
    · rfl
  · rw [N8.sel_upd _ _ (by omega) (by omega)]
    split
    · rw [N8.sel_upd _ _ (by omega) (by omega)]
      split
      · rw [N8.sel_upd _ _ (by omega) (by omega)]
        split
        · rw [N8.sel_upd _ _ (by omega) (by omega)]
          split
          · rw [N8.sel_upd_ne _ _ (by omega) (by omega) (by omega)]
          · rfl
        · rfl
      · rfl
    · rfl
  · show (match Nat.beq i j with | true => x | false => findL j t.rest) = _
    cases q : Nat.beq i j with
    | true => exact absurd (Nat.eq_of_beq_eq_true q) h
    | false => rfl

theorem Tr.get_set_same (t : Tr α) (i : Nat) (x : α) : (t.set i x).get i = some x := Tr.get_upd_same _ _ _
theorem Tr.get_set_ne (t : Tr α) {i j : Nat} (x : α) (h : i ≠ j) : (t.set i x).get j = t.get j := Tr.get_upd_ne _ _ h
theorem Tr.get_set (t : Tr α) (i j : Nat) (x : α) : (t.set i x).get j = if i = j then some x else t.get j := by
  split
  · subst_vars; exact Tr.get_set_same _ _ _
  · exact Tr.get_set_ne _ _ (by assumption)
theorem Tr.get_del_same (t : Tr α) (i : Nat) : (t.del i).get i = none := Tr.get_upd_same _ _ _
theorem Tr.get_del_ne (t : Tr α) {i j : Nat} (h : i ≠ j) : (t.del i).get j = t.get j := Tr.get_upd_ne _ _ h
theorem Tr.get_del_some (t : Tr α) {i j : Nat} {x : α} (h : (t.del i).get j = some x) : i ≠ j ∧ t.get j = some x := by
  by_cases e : i = j
  · subst e; rw [Tr.get_del_same] at h; cases h
  · exact ⟨e, by rwa [Tr.get_del_ne t e] at h⟩
theorem Tr.get_nil (i : Nat) : (Tr.nil : Tr α).get i = none := by
  rcases lvl_cases i with ⟨e, h⟩ | ⟨e, h⟩ | ⟨e, h⟩ | ⟨e, h⟩ | ⟨e, h⟩ | ⟨e, h⟩ <;> simp only [Tr.get, Tr.nil, e, N8.sel_all, findL]
theorem Tr.get_put : ∀ (l : List α) (t : Tr α) (i j : Nat), (t.put i l).get j = if i ≤ j ∧ j < i + l.length then l[j - i]? else t.get j
  | [], t, i, j => by
    simp only [Tr.put, List.length_nil]
    rw [if_neg (by omega)]
  | x :: l, t, i, j => by
    simp only [Tr.put, List.length_cons]
    rw [Tr.get_put l (t.set i x) (i + 1) j]
    by_cases h : i + 1 ≤ j ∧ j < i + 1 + l.length
    · rw [if_pos h, if_pos (by omega), show j - i = (j - (i + 1)) + 1 by omega]
      rfl
    · rw [if_neg h]
      by_cases e : i = j
      · subst e
        rw [Tr.get_set_same, if_pos (by omega)]
        simp
      · rw [Tr.get_set_ne _ _ e, if_neg (by omega)]
theorem Tr.take_spec (t : Tr α) : ∀ (n i : Nat) (l : List α), t.take i n = some l → l.length = n ∧ ∀ j, j < n → t.get (i + j) = l[j]?
  | 0, i, l, h => by
    simp only [Tr.take, Option.some.injEq] at h
    subst h
    exact ⟨rfl, fun j hj => by omega⟩
  | n + 1, i, l, h => by
    simp only [Tr.take] at h
    cases hx : t.get i with
    | none => simp [hx] at h
    | some x =>
      cases hr : t.take (i + 1) n with
      | none => simp [hx, hr] at h
      | some r =>
        simp only [hx, hr, Option.some.injEq] at h
        subst h
        obtain ⟨h1, h2⟩ := Tr.take_spec t n (i + 1) r hr
        refine ⟨by simp [h1], fun j hj => ?_⟩
        cases j with
        | zero => simpa using hx
        | succ j =>
          have := h2 j (by omega)
          rw [show i + (j + 1) = i + 1 + j by omega, this]
          rfl
end
end Go.Proofs.YteopodohghnokaaGreatDoor.Ex
end
section
namespace Go.Proofs.YteopodohghnokaaGreatDoor.Ex
open Go
set_option linter.unusedVariables false
set_option linter.unusedSimpArgs false

/-- What names stand for: a place in the machine's memory, an unknown number, an unknown value. -/
structure Cx where
  loc : Nat → Option (Nat × Nat × Nat)
  sym : Nat → Int
  opq : Nat → Value

mutual
inductive VR (γ : Cx) : AV → Value → Prop
  | int (k : IntKind) (n : Int) : VR γ (.int k n) (.int k n)
  | lin (k : IntKind) (i : Nat) (a c : Int) : VR γ (.lin k i a c) (.int k (a * γ.sym i + c))
  | bool (b : Bool) : VR γ (.bool b) (.bool b)
  | str (s : List UInt8) : VR γ (.str s) (.string ⟨s.toArray⟩)
  | ptr {b o β ω σ : Nat} : γ.loc b = some (β, ω, σ) → VR γ (.ptr b o) (.pointer (some ⟨β, ω + o, none⟩))
  | nilptr : VR γ .nilptr (.pointer none)
  | slice {b o len es : Nat} {full : Bool} {β ω σ cap : Nat} {A : Addr} : γ.loc b = some (β, ω, σ) → len ≤ cap → (full = true → cap = len) →
      (cap ≠ 0 → A = ⟨β, ω + o, none⟩) → ω + o + cap * es ≤ σ → VR γ (.slice b o len es full) (.slice (some A) len cap)
  | nilslice : VR γ .nilslice (.slice none 0 0)
  | func {f : FuncId} {a c : List AV} {a' c' : Array Value} : VRs γ a a'.toList → VRs γ c c'.toList → VR γ (.func f a c) (.func (.func f) a' c')
  | nilFunc : VR γ .nilFunc .nilFunc
  | iface {t : TypeId} {v : AV} {v' : Value} : VR γ v v' → VR γ (.iface t v) (.iface t v')
  | nilIface : VR γ .nilIface .nilIface
  | agg {l : List AV} {l' : Array Value} : VRs γ l l'.toList → VR γ (.agg l) (.agg l')
  | tup {l : List AV} {l' : Array Value} : VRs γ l l'.toList → VR γ (.tup l) (.tuple l')
  | glob (g : Nat) : VR γ (.glob g) (.pointer (some ⟨g, 0, none⟩))
  | opq (i : Nat) : (γ.opq i).oneCell' = true → VR γ (.opq i) (γ.opq i)
  | yld {y l ω σ : Nat} : γ.loc y = some (l, ω, σ) → VR γ (.yld y) (.func (.yield l) #[] #[])
inductive VRs (γ : Cx) : List AV → List Value → Prop
  | nil : VRs γ [] []
  | cons {v : AV} {v' : Value} {l : List AV} {l' : List Value} : VR γ v v' → VRs γ l l' → VRs γ (v :: l) (v' :: l')
end

/-- A later context: what was named stays. -/
structure Cx.Le (γ γ' : Cx) : Prop where
  loc : ∀ {b : Nat} {l : Nat × Nat × Nat}, γ.loc b = some l → γ'.loc b = some l
  sym : γ'.sym = γ.sym
  opq : γ'.opq = γ.opq
theorem Cx.Le.refl (γ : Cx) : γ.Le γ := ⟨fun h => h, rfl, rfl⟩
theorem Cx.Le.trans {γ γ' γ'' : Cx} (h : γ.Le γ') (h' : γ'.Le γ'') : γ.Le γ'' := ⟨fun e => h'.loc (h.loc e), h'.sym.trans h.sym, h'.opq.trans h.opq⟩

mutual
theorem VR.mono {γ γ' : Cx} (h : γ.Le γ') : ∀ {a : AV} {v : Value}, VR γ a v → VR γ' a v
  | _, _, .int k n => .int k n
  | _, _, .lin k i a c => by rw [← h.sym]; exact .lin k i a c
  | _, _, .bool b => .bool b
  | _, _, .str s => .str s
  | _, _, .ptr e => .ptr (h.loc e)
  | _, _, .nilptr => .nilptr
  | _, _, .slice e h1 h2 h3 h4 => .slice (h.loc e) h1 h2 h3 h4
  | _, _, .nilslice => .nilslice
  | _, _, .func x y => .func (VRs.mono h x) (VRs.mono h y)
  | _, _, .nilFunc => .nilFunc
  | _, _, .iface x => .iface (VR.mono h x)
  | _, _, .nilIface => .nilIface
  | _, _, .agg x => .agg (VRs.mono h x)
  | _, _, .tup x => .tup (VRs.mono h x)
  | _, _, .glob g => .glob g
  | _, _, .opq i e => by rw [← h.opq] at e ⊢; exact .opq i e
  | _, _, .yld e => .yld (h.loc e)
theorem VRs.mono {γ γ' : Cx} (h : γ.Le γ') : ∀ {a : List AV} {v : List Value}, VRs γ a v → VRs γ' a v
  | _, _, .nil => .nil
  | _, _, .cons x y => .cons (VR.mono h x) (VRs.mono h y)
end

theorem VRs.length {γ : Cx} : ∀ {a : List AV} {v : List Value}, VRs γ a v → a.length = v.length
  | _, _, .nil => rfl
  | _, _, .cons _ y => by simp [VRs.length y]
theorem VRs.get {γ : Cx} : ∀ {a : List AV} {v : List Value}, VRs γ a v → ∀ (i : Nat) {x : AV}, a[i]? = some x → ∃ y, v[i]? = some y ∧ VR γ x y
  | _, _, .nil, i, x, h => by simp at h
  | _, _, .cons x y, 0, _, h => by simp at h; subst h; exact ⟨_, rfl, x⟩
  | _, _, .cons x y, i + 1, _, h => by simp at h; simpa using VRs.get y i h
theorem VRs.append {γ : Cx} : ∀ {a : List AV} {v : List Value}, VRs γ a v → ∀ {b : List AV} {u : List Value}, VRs γ b u → VRs γ (a ++ b) (v ++ u)
  | _, _, .nil, _, _, h => h
  | _, _, .cons x y, _, _, h => .cons x (VRs.append y h)
theorem VRs.take {γ : Cx} : ∀ {a : List AV} {v : List Value}, VRs γ a v → ∀ n : Nat, VRs γ (a.take n) (v.take n)
  | _, _, .nil, n => by simp; exact .nil
  | _, _, .cons x y, 0 => .nil
  | _, _, .cons x y, n + 1 => .cons x (VRs.take y n)
theorem VRs.drop {γ : Cx} : ∀ {a : List AV} {v : List Value}, VRs γ a v → ∀ n : Nat, VRs γ (a.drop n) (v.drop n)
  | _, _, .nil, n => by simp; exact .nil
  | _, _, .cons x y, 0 => .cons x y
  | _, _, .cons x y, n + 1 => VRs.drop y n
theorem VRs.of_get {γ : Cx} : ∀ {a : List AV} {v : List Value}, a.length = v.length → (∀ (i : Nat) x y, a[i]? = some x → v[i]? = some y → VR γ x y) → VRs γ a v
  | [], [], _, _ => .nil
  | x :: l, y :: r, h, g => .cons (g 0 x y rfl rfl) (VRs.of_get (by simpa using h) (fun i a b ha hb => g (i + 1) a b (by simpa using ha) (by simpa using hb)))

theorem VR.oneCell {γ : Cx} {a : AV} {v : Value} (h : VR γ a v) (ha : okc a = true) : v.oneCell' = true := by
  cases h <;> first | rfl | assumption | (simp [okc] at ha; done)
theorem VRs.oneCell {γ : Cx} : ∀ {a : List AV} {v : List Value}, VRs γ a v → a.all okc = true → ∀ u ∈ v, u.oneCell' = true
  | _, _, .nil, _, u, hu => by simp at hu
  | _, _, .cons x y, ha, u, hu => by
    simp only [List.all_cons, Bool.and_eq_true] at ha
    rcases List.mem_cons.1 hu with rfl | hu
    · exact x.oneCell ha.1
    · exact VRs.oneCell y ha.2 u hu
theorem VR.cells {γ : Cx} {a : AV} {v : Value} (h : VR γ a v) (ha : a.cells.all okc = true ∨ ∀ l, a ≠ .agg l) : VRs γ a.cells v.cells.toList := by
  cases h <;> first | (exact .cons (by constructor <;> assumption) .nil) | assumption | (exact .cons (by constructor) .nil) | skip
  case opq i e =>
    have : (γ.opq i).cells = #[γ.opq i] := by
      generalize γ.opq i = u at e
      cases u <;> first | rfl | (simp [Value.oneCell'] at e)
    rw [this]
    exact .cons (.opq i e) .nil

theorem absV_ok {γ : Cx} {v : Value} {a : AV} (h : absV v = some a) : VR γ a v := by
  unfold absV at h
  split at h <;> simp at h <;> subst h
  · exact .bool _
  · exact .int _ _
  · exact .str _
  · exact .nilptr
  · exact .nilslice
  · exact .nilFunc
  · exact .nilIface
  · exact .tup .nil
theorem absAll_ok {γ : Cx} : ∀ {v : List Value} {a : List AV}, absAll v = some a → VRs γ a v
  | [], a, h => by simp [absAll] at h; subst h; exact .nil
  | v :: l, a, h => by
    simp only [absAll] at h
    cases hx : absV v with
    | none => simp [hx] at h
    | some x =>
      cases hr : absAll l with
      | none => simp [hx, hr] at h
      | some r =>
        simp [hx, hr] at h
        subst h
        exact .cons (absV_ok hx) (absAll_ok hr)
theorem absC_ok {γ : Cx} {v : Value} {a : AV} (h : absC v = some a) : VR γ a v := by
  unfold absC at h
  split at h
  · rename_i x hx
    simp only [Option.some.injEq] at h
    subst h
    exact absV_ok hx
  · split at h
    · split at h
      · rename_i l hl
        simp only [Option.some.injEq] at h
        subst h
        exact .agg (absAll_ok hl)
      · cases h
    · cases h
theorem absCells_ok {γ : Cx} {v : Value} {a : List AV} (h : absCells v = some a) : VRs γ a v.cells.toList := by
  cases v <;> first
    | exact absAll_ok h
    | (simp only [absCells] at h
       split at h
       · rename_i x hx
         simp only [Option.some.injEq] at h
         subst h
         exact .cons (absV_ok hx) .nil
       · cases h)

/-! ### Memory -/
/-- A block as the machine has it. -/
structure RelB (γ : Cx) (w : World) (id : Nat) (k : Blk) (β ω σ : Nat) : Prop where
  loc : γ.loc id = some (β, ω, σ)
  fit : ω + k.len ≤ σ
  there : ∀ i, i < σ → (w.cell? ⟨β, i, none⟩).isSome = true ∧ w.frozen? ⟨β, i, none⟩ = false
  cell : ∀ i, i < k.len → ∃ v av, k.cells.get i = some av ∧ okc av = true ∧ w.cell? ⟨β, ω + i, none⟩ = some v ∧ VR γ av v

abbrev HM := Nat → Option Blk
structure Rel (E : Env) (γ : Cx) (N : Nat) (H : HM) (w : World) : Prop where
  blk : ∀ {id : Nat} {k : Blk}, H id = some k → ∃ β ω σ, RelB γ w id k β ω σ
  low : ∀ {id : Nat} {l : Nat × Nat × Nat}, γ.loc id = some l → N ≤ l.1 ∧ l.1 < w.heap.size
  inj : ∀ {i j : Nat} {k k' : Blk} {l l' : Nat × Nat × Nat}, H i = some k → H j = some k' → γ.loc i = some l → γ.loc j = some l' → l.1 = l'.1 → i = j
  glob : ∀ {g : Nat} {v : AV}, E.globs.get g = some v → g < N ∧ ∃ rv, w.cell? ⟨g, 0, none⟩ = some rv ∧ VR γ v rv
  sym : ∀ {i : Nat} {lo hi : Int}, E.syms.get i = some (lo, hi) → lo ≤ γ.sym i ∧ γ.sym i ≤ hi

/-- What no step touches. -/
structure Same (w w' : World) : Prop where
  os : w'.os = w.os
  tape : w'.tape = w.tape
  output : w'.output = w.output
theorem Same.refl (w : World) : Same w w := ⟨rfl, rfl, rfl⟩
theorem Same.trans {w w' w'' : World} (h : Same w w') (g : Same w' w'') : Same w w'' := ⟨g.os.trans h.os, g.tape.trans h.tape, g.output.trans h.output⟩
/-- What a step keeps: names, all blocks that are none of H's; new names are of a stretch. -/
structure Nxt (γ : Cx) (H : HM) (w : World) (n : Nat) (γ' : Cx) (H' : HM) (w' : World) (n' : Nat) : Prop where
  le : γ.Le γ'
  size : w.heap.size ≤ w'.heap.size
  keep : ∀ β, β < w.heap.size → (∀ id k l, H id = some k → γ.loc id = some l → l.1 ≠ β) → w'.heap[β]? = w.heap[β]?
  img : ∀ {id : Nat} {k : Blk} {l : Nat × Nat × Nat}, H' id = some k → γ'.loc id = some l → w.heap.size ≤ l.1 ∨ ∃ j k0 l0, H j = some k0 ∧ γ.loc j = some l0 ∧ l0.1 = l.1
  dom : ∀ {id : Nat} {l : Nat × Nat × Nat}, γ'.loc id = some l → (∃ l0, γ.loc id = some l0) ∨ (n ≤ id ∧ id < n')
  num : n ≤ n'
  still : Same w w'
  new : ∀ {id : Nat} {k : Blk}, H' id = some k → (∃ k0, H id = some k0) ∨ (n ≤ id ∧ id < n')

theorem Nxt.refl (γ : Cx) (H : HM) (w : World) (n : Nat) : Nxt γ H w n γ H w n :=
  ⟨.refl _, Nat.le_refl _, fun _ _ _ => rfl, fun h e => .inr ⟨_, _, _, h, e, rfl⟩, fun e => .inl ⟨_, e⟩, Nat.le_refl _, .refl _, fun e => .inl ⟨_, e⟩⟩
theorem Nxt.trans {γ γ' γ'' : Cx} {H H' H'' : HM} {w w' w'' : World} {n n' n'' : Nat} (h : Nxt γ H w n γ' H' w' n') (g : Nxt γ' H' w' n' γ'' H'' w'' n'') : Nxt γ H w n γ'' H'' w'' n'' where
  le := h.le.trans g.le
  size := Nat.le_trans h.size g.size
  keep := fun β hβ hf => by
    rw [g.keep β (Nat.lt_of_lt_of_le hβ h.size) (fun id k l hk hl e => ?_), h.keep β hβ hf]
    rcases h.img hk hl with h1 | ⟨j, k0, l0, a, b, c⟩
    · omega
    · exact hf j k0 l0 a b (c.trans e)
  img := fun hk hl => by
    rcases g.img hk hl with h1 | ⟨j, k0, l0, a, b, c⟩
    · exact .inl (Nat.le_trans h.size h1)
    · rcases h.img a b with h2 | ⟨j', k1, l1, a', b', c'⟩
      · exact .inl (by omega)
      · exact .inr ⟨j', k1, l1, a', b', c'.trans c⟩
  dom := fun hl => by
    rcases g.dom hl with ⟨l0, h0⟩ | ⟨h1, h2⟩
    · rcases h.dom h0 with h3 | ⟨h3, h4⟩
      · exact .inl h3
      · exact .inr ⟨h3, Nat.lt_of_lt_of_le h4 g.num⟩
    · exact .inr ⟨Nat.le_trans h.num h1, h2⟩
  num := Nat.le_trans h.num g.num
  still := h.still.trans g.still
  new := fun e => by
    rcases g.new e with ⟨k0, h0⟩ | ⟨h1, h2⟩
    · rcases h.new h0 with h3 | ⟨h3, h4⟩
      · exact .inl h3
      · exact .inr ⟨h3, Nat.lt_of_lt_of_le h4 g.num⟩
    · exact .inr ⟨Nat.le_trans h.num h1, h2⟩

theorem cell?_heap {w w' : World} {β : Nat} (h : w'.heap[β]? = w.heap[β]?) (o : Nat) : w'.cell? ⟨β, o, none⟩ = w.cell? ⟨β, o, none⟩ := by
  unfold World.cell?
  simp only [h]
theorem frozen?_heap {w w' : World} {β : Nat} (h : w'.heap[β]? = w.heap[β]?) (o : Nat) : w'.frozen? ⟨β, o, none⟩ = w.frozen? ⟨β, o, none⟩ := by
  unfold World.frozen?
  simp only [h]
/-- A block that the step left alone. -/
theorem RelB.keep {γ γ' : Cx} {w w' : World} {id β ω σ : Nat} {k : Blk} (h : RelB γ w id k β ω σ) (hg : γ.Le γ') (hw : w'.heap[β]? = w.heap[β]?) : RelB γ' w' id k β ω σ where
  loc := hg.loc h.loc
  fit := h.fit
  there := fun i hi => by rw [cell?_heap hw, frozen?_heap hw]; exact h.there i hi
  cell := fun i hi => by
    obtain ⟨v, av, h1, h2, h3, h4⟩ := h.cell i hi
    exact ⟨v, av, h1, h2, by rw [cell?_heap hw]; exact h3, h4.mono hg⟩
theorem RelB.fun {γ : Cx} {w : World} {id β ω σ β' ω' σ' : Nat} {k : Blk} (h : RelB γ w id k β ω σ) (e : γ.loc id = some (β', ω', σ')) : β = β' ∧ ω = ω' ∧ σ = σ' := by
  have := h.loc
  rw [this] at e
  simpa using e

theorem Rel.heap {E : Env} {γ : Cx} {N : Nat} {H : HM} {w w' : World} (h : Rel E γ N H w) (hw : w'.heap = w.heap) : Rel E γ N H w' where
  blk := fun hk => by obtain ⟨β, ω, σ, hb⟩ := h.blk hk; exact ⟨β, ω, σ, hb.keep (.refl _) (by rw [hw])⟩
  low := fun hl => by rw [hw]; exact h.low hl
  inj := h.inj
  glob := fun hg => by
    obtain ⟨h1, rv, h2, h3⟩ := h.glob hg
    exact ⟨h1, rv, (cell?_heap (by rw [hw]) 0).trans h2, h3⟩
  sym := h.sym
theorem Nxt.heap {γ : Cx} {H : HM} {w w' : World} (n : Nat) (hw : w'.heap = w.heap) (hst : Same w w' := by exact ⟨rfl, rfl, rfl⟩) : Nxt γ H w n γ H w' n :=
  ⟨.refl _, by rw [hw]; exact Nat.le_refl _, fun _ _ _ => by rw [hw], fun h e => .inr ⟨_, _, _, h, e, rfl⟩, fun e => .inl ⟨_, e⟩, Nat.le_refl _, hst, fun e => .inl ⟨_, e⟩⟩
/-- Fewer blocks. -/
theorem Rel.less {E : Env} {γ : Cx} {N : Nat} {H H' : HM} {w : World} (h : Rel E γ N H w) (hs : ∀ id k, H' id = some k → H id = some k) : Rel E γ N H' w where
  blk := fun hk => h.blk (hs _ _ hk)
  low := h.low
  inj := fun a b => h.inj (hs _ _ a) (hs _ _ b)
  glob := h.glob
  sym := h.sym

def Cx.bind (γ : Cx) (id : Nat) (l : Nat × Nat × Nat) : Cx := { γ with loc := fun j => if j = id then some l else γ.loc j }
theorem Cx.le_bind {γ : Cx} {id : Nat} (l : Nat × Nat × Nat) (h : γ.loc id = none) : γ.Le (γ.bind id l) :=
  ⟨fun {b l'} e => by unfold Cx.bind; simp only; rw [if_neg (by rintro rfl; rw [h] at e; cases e)]; exact e, rfl, rfl⟩
theorem Cx.bind_same (γ : Cx) (id : Nat) (l : Nat × Nat × Nat) : (γ.bind id l).loc id = some l := by simp [Cx.bind]
theorem Cx.bind_ne {γ : Cx} {id j : Nat} (l : Nat × Nat × Nat) (h : j ≠ id) : (γ.bind id l).loc j = γ.loc j := by simp [Cx.bind, h]

def hset (H : HM) (id : Nat) (k : Blk) : HM := fun j => if id = j then some k else H j

/-- A new block. -/
theorem rel_new {E : Env} {γ : Cx} {N : Nat} {H : HM} {w w' : World} {cs : Array Value} {T : TypeId} {fz : Nat × Nat} {l : List AV} {vs : List Value} {id : Nat}
    (h : Rel E γ N H w) (hN : N ≤ w.heap.size) (hid : γ.loc id = none) (hw : w'.heap = w.heap.push (.cells cs T fz)) (hfz : ∀ i, i < cs.size → ¬ (fz.1 ≤ i ∧ i < fz.2))
    (hv : VRs γ l vs) (hc : l.all okc = true) (hl : vs.length ≤ cs.size) (hcs : ∀ i, i < vs.length → cs[i]? = vs[i]?) (hst : Same w w') :
    Rel E (γ.bind id (w.heap.size, 0, cs.size)) N (hset H id ⟨l.length, Tr.nil.put 0 l⟩) w' ∧ Nxt γ H w id (γ.bind id (w.heap.size, 0, cs.size)) (hset H id ⟨l.length, Tr.nil.put 0 l⟩) w' (id + 1) := by
  have hle := Cx.le_bind (w.heap.size, 0, cs.size) hid
  have hk : ∀ β, β < w.heap.size → w'.heap[β]? = w.heap[β]? := fun β hβ => by
    rw [hw, Array.getElem?_push, if_neg (by omega)]
  have hnew : w'.heap[w.heap.size]? = some (.cells cs T fz) := by rw [hw, Array.getElem?_push_size]
  have hcell : ∀ i, w'.cell? ⟨w.heap.size, i, none⟩ = cs[i]? := fun i => by unfold World.cell?; simp [hnew]
  have hsz : w'.heap.size = w.heap.size + 1 := by rw [hw]; simp
  have old : ∀ {i : Nat} {k : Blk}, id ≠ i → H i = some k → ∃ β ω σ, RelB (γ.bind id (w.heap.size, 0, cs.size)) w' i k β ω σ := fun {i k} hi hk' => by
    obtain ⟨β, ω, σ, hb⟩ := h.blk hk'
    exact ⟨β, ω, σ, hb.keep hle (hk β (h.low hb.loc).2)⟩
  have hHne : ∀ {k : Blk}, H id = some k → False := fun {k} e => by
    obtain ⟨β, ω, σ, hb⟩ := h.blk e
    rw [hb.loc] at hid; cases hid
  refine ⟨⟨?_, ?_, ?_, ?_, h.sym⟩, ⟨hle, by omega, fun β hβ _ => hk β hβ, ?_, ?_, by omega, hst, fun {i k} e => by
      unfold hset at e
      split at e
      · rename_i e0; subst e0; exact .inr ⟨Nat.le_refl _, by omega⟩
      · exact .inl ⟨_, e⟩⟩⟩
  · intro i k hi
    unfold hset at hi
    split at hi
    · rename_i e
      subst e
      simp only [Option.some.injEq] at hi
      subst hi
      refine ⟨w.heap.size, 0, cs.size, Cx.bind_same _ _ _, by simp only; have := hv.length; omega, fun i hi => ?_, fun i hi => ?_⟩
      · rw [hcell]
        refine ⟨by simp [hi], ?_⟩
        unfold World.frozen?
        simp only [hnew]
        have := hfz i hi
        simp only [Bool.and_eq_false_iff, decide_eq_false_iff_not]
        omega
      · simp only at hi
        obtain ⟨av, hav⟩ : ∃ av, l[i]? = some av := ⟨l[i], by simp [hi]⟩
        obtain ⟨v, hv1, hv2⟩ := hv.get i hav
        have hi' : i < vs.length := by have := hv.length; omega
        refine ⟨v, av, ?_, ?_, ?_, hv2.mono hle⟩
        · rw [Tr.get_put, if_pos (by omega)]; simpa using hav
        · exact List.all_eq_true.1 hc av (List.mem_of_getElem? hav)
        · rw [Nat.zero_add, hcell, hcs i hi', hv1]
    · exact old (by assumption) hi
  · intro i l' hl'
    by_cases e : i = id
    · subst e
      rw [Cx.bind_same] at hl'
      simp only [Option.some.injEq] at hl'
      subst hl'
      exact ⟨hN, by omega⟩
    · rw [Cx.bind_ne _ e] at hl'
      have := h.low hl'
      omega
  · intro i j k k' l1 l2 hi hj h1 h2 he
    unfold hset at hi hj
    by_cases ei : id = i
    · by_cases ej : id = j
      · omega
      · subst ei
        rw [Cx.bind_same] at h1
        rw [Cx.bind_ne _ (Ne.symm ej)] at h2
        have := h.low h2
        simp only [Option.some.injEq] at h1
        subst h1
        simp only at he
        omega
    · rw [if_neg ei] at hi
      rw [Cx.bind_ne _ (Ne.symm ei)] at h1
      by_cases ej : id = j
      · subst ej
        rw [Cx.bind_same] at h2
        have := h.low h1
        simp only [Option.some.injEq] at h2
        subst h2
        simp only at he
        omega
      · rw [if_neg ej] at hj
        rw [Cx.bind_ne _ (Ne.symm ej)] at h2
        exact h.inj hi hj h1 h2 he
  · intro g v hg
    obtain ⟨h1, rv, h2, h3⟩ := h.glob hg
    exact ⟨h1, rv, by rw [cell?_heap (hk g (by omega))]; exact h2, h3.mono hle⟩
  · intro i k l1 hi hl1
    by_cases e : i = id
    · subst e
      rw [Cx.bind_same] at hl1
      simp only [Option.some.injEq] at hl1
      subst hl1
      exact .inl (Nat.le_refl _)
    · unfold hset at hi
      rw [if_neg (Ne.symm e)] at hi
      rw [Cx.bind_ne _ e] at hl1
      exact .inr ⟨i, k, l1, hi, hl1, rfl⟩
  · intro i l1 hl1
    by_cases e : i = id
    · subst e; exact .inr ⟨Nat.le_refl _, by omega⟩
    · rw [Cx.bind_ne _ e] at hl1
      exact .inl ⟨_, hl1⟩
end Go.Proofs.YteopodohghnokaaGreatDoor.Ex
end
section
namespace Go.Proofs.YteopodohghnokaaGreatDoor.Ex
open Go
set_option linter.unusedVariables false
set_option linter.unusedSimpArgs false

theorem size_setCells (b : Nat) : ∀ (vs : List Value) (o : Nat) (w : World), (w.setCells b o vs).heap.size = w.heap.size
  | [], _, _ => rfl
  | v :: r, o, w => by simp only [World.setCells]; rw [size_setCells b r (o + 1)]; simp [World.setCell]
theorem same_setCells (b : Nat) : ∀ (vs : List Value) (o : Nat) (w : World), Same w (w.setCells b o vs)
  | [], _, _ => .refl _
  | v :: r, o, w => .trans (w' := w.setCell ⟨b, o, none⟩ v) ⟨rfl, rfl, rfl⟩ (same_setCells b r (o + 1) _)
theorem heap_setCells (b : Nat) : ∀ (vs : List Value) (o : Nat) (w : World) (β : Nat), β ≠ b → (w.setCells b o vs).heap[β]? = w.heap[β]?
  | [], _, _, _, _ => rfl
  | v :: r, o, w, β, h => by
    simp only [World.setCells]
    rw [heap_setCells b r (o + 1) _ β h]
    simp only [World.setCell]
    rw [Array.getElem?_modify, if_neg (Ne.symm h)]

/-- What is read. -/
theorem loadA_ok {E : Env} {γ : Cx} {N : Nat} {H : AH} {w : World} (h : Rel E γ N H.bs.get w) {b o n : Nat} {l : List AV} (hl : loadA H b o n = some l) :
    ∃ β ω σ vs, γ.loc b = some (β, ω, σ) ∧ VRs γ l vs ∧ vs.length = n ∧ l.all okc = true ∧ ω + o + n ≤ σ ∧ ∀ j v, vs[j]? = some v → w.cell? (Addr.add ⟨β, ω + o, none⟩ j) = some v := by
  unfold loadA at hl
  cases hk : H.bs.get b with
  | none => simp [hk] at hl
  | some k =>
    simp only [hk] at hl
    split at hl
    · rename_i hlen
      obtain ⟨β, ω, σ, hb⟩ := h.blk hk
      obtain ⟨h1, h2⟩ := Tr.take_spec _ _ _ _ hl
      have hfit := hb.fit
      have hex : ∀ j, j < n → ∃ v av, l[j]? = some av ∧ okc av = true ∧ w.cell? ⟨β, ω + (o + j), none⟩ = some v ∧ VR γ av v := fun j hj => by
        obtain ⟨v, av, e1, e2, e3, e4⟩ := hb.cell (o + j) (by omega)
        exact ⟨v, av, by rw [← h2 j hj]; exact e1, e2, e3, e4⟩
      let vs : List Value := (List.range n).map fun j => (w.cell? ⟨β, ω + (o + j), none⟩).getD undef
      have hvs : ∀ j, j < n → vs[j]? = some ((w.cell? ⟨β, ω + (o + j), none⟩).getD undef) := fun j hj => by simp [vs, hj]
      refine ⟨β, ω, σ, vs, hb.loc, VRs.of_get (by simp [vs, h1]) ?_, by simp [vs], ?_, by omega, ?_⟩
      · intro j x y hx hy
        have hj : j < n := by have := (List.getElem?_eq_some_iff.1 hx).1; omega
        obtain ⟨v, av, e1, e2, e3, e4⟩ := hex j hj
        rw [hvs j hj, e3] at hy
        rw [e1] at hx
        simp only [Option.getD_some, Option.some.injEq] at hy hx
        subst hy hx
        exact e4
      · rw [List.all_eq_true]
        intro x hx
        obtain ⟨j, hj⟩ := List.mem_iff_getElem?.1 hx
        obtain ⟨v, av, e1, e2, e3, e4⟩ := hex j (by have := (List.getElem?_eq_some_iff.1 hj).1; omega)
        rw [e1] at hj
        simp only [Option.some.injEq] at hj
        subst hj
        exact e2
      · intro j v hv
        have hj : j < n := by have := (List.getElem?_eq_some_iff.1 hv).1; simpa [vs] using this
        obtain ⟨v', av, e1, e2, e3, e4⟩ := hex j hj
        rw [hvs j hj, e3] at hv
        simp only [Option.getD_some, Option.some.injEq] at hv
        subst hv
        rw [show (⟨β, ω + o, none⟩ : Addr).add j = ⟨β, ω + (o + j), none⟩ by unfold Addr.add; split <;> simp_all [Nat.add_assoc]]
        exact e3
    · cases hl

/-- What is written into a block. -/
theorem relB_put {γ : Cx} {w : World} {id β ω σ : Nat} {k : Blk} (hb : RelB γ w id k β ω σ) {o : Nat} {l : List AV} {vs : List Value} (hv : VRs γ l vs) (hc : l.all okc = true) (ho : o + l.length ≤ k.len) :
    RelB γ (w.setCells β (ω + o) vs) id ⟨k.len, k.cells.put o l⟩ β ω σ where
  loc := hb.loc
  fit := hb.fit
  there := fun i hi => by
    obtain ⟨h1, h2⟩ := hb.there i hi
    rw [World.frozen?_setCells]
    refine ⟨?_, h2⟩
    by_cases hin : ω + o ≤ i ∧ i < ω + o + vs.length
    · obtain ⟨j, rfl⟩ : ∃ j, i = ω + o + j := ⟨i - (ω + o), by omega⟩
      rw [World.cell?_setCells_in β vs (ω + o) w (fun j hj => (hb.there _ (by have := hv.length; have := hb.fit; omega)).1) j (by omega)]
      rfl
    · rw [World.cell?_setCells_out β vs (ω + o) w _ (fun _ _ => by simp only; omega)]
      exact h1
  cell := fun i hi => by
    simp only at hi
    have hlen := hv.length
    by_cases hin : o ≤ i ∧ i < o + l.length
    · obtain ⟨av, hav⟩ : ∃ av, l[i - o]? = some av := ⟨l[i - o]'(by omega), by simp⟩
      obtain ⟨v, hv1, hv2⟩ := hv.get _ hav
      refine ⟨v, av, ?_, List.all_eq_true.1 hc av (List.mem_of_getElem? hav), ?_, hv2⟩
      · simp only
        rw [Tr.get_put, if_pos hin]; exact hav
      · rw [show ω + i = ω + o + (i - o) by omega]
        rw [World.cell?_setCells_in β vs (ω + o) w (fun j hj => (hb.there _ (by have := hb.fit; omega)).1) (i - o) (by omega)]
        rw [← hv1]; simp
    · obtain ⟨v, av, e1, e2, e3, e4⟩ := hb.cell i hi
      refine ⟨v, av, ?_, e2, ?_, e4⟩
      · simp only
        rw [Tr.get_put, if_neg hin]; exact e1
      · rw [World.cell?_setCells_out β vs (ω + o) w _ (fun _ _ => by simp only; omega)]
        exact e3

/-- A block written anew, in place. -/
theorem rel_set {E : Env} {γ : Cx} {N : Nat} {H : HM} {w w' : World} {id β ω σ : Nat} {k k' : Blk} (n : Nat)
    (h : Rel E γ N H w) (hk : H id = some k) (hl : γ.loc id = some (β, ω, σ)) (hb : RelB γ w' id k' β ω σ) (hsz : w'.heap.size = w.heap.size) (hw : ∀ b, b ≠ β → w'.heap[b]? = w.heap[b]?) (hst : Same w w') :
    Rel E γ N (hset H id k') w' ∧ Nxt γ H w n γ (hset H id k') w' n := by
  have hne : ∀ {i : Nat} {k2 : Blk} {l : Nat × Nat × Nat}, i ≠ id → H i = some k2 → γ.loc i = some l → l.1 ≠ β := fun hi h2 h3 e => hi (h.inj h2 hk h3 hl e)
  refine ⟨⟨?_, ?_, ?_, ?_, h.sym⟩, ⟨.refl _, by omega, ?_, ?_, fun e => .inl ⟨_, e⟩, Nat.le_refl _, hst, fun {i k2} e => by
      unfold hset at e
      split at e
      · rename_i e0; subst e0; exact .inl ⟨_, hk⟩
      · exact .inl ⟨_, e⟩⟩⟩
  · intro i k2 hi
    unfold hset at hi
    split at hi
    · rename_i e
      subst e
      simp only [Option.some.injEq] at hi
      subst hi
      exact ⟨_, _, _, hb⟩
    · rename_i e
      obtain ⟨β2, ω2, σ2, hb2⟩ := h.blk hi
      exact ⟨β2, ω2, σ2, hb2.keep (.refl _) (hw _ (hne (Ne.symm e) hi hb2.loc))⟩
  · intro i l e
    rw [hsz]
    exact h.low e
  · intro i j k1 k2 l1 l2 hi hj h1 h2 he
    unfold hset at hi hj
    split at hi <;> split at hj
    · omega
    · rename_i e1 e2; subst e1; exact h.inj hk hj h1 h2 he
    · rename_i e1 e2; subst e2; exact h.inj hi hk h1 h2 he
    · exact h.inj hi hj h1 h2 he
  · intro g v hg
    obtain ⟨h1, rv, h2, h3⟩ := h.glob hg
    exact ⟨h1, rv, (cell?_heap (hw g (by have := (h.low hl).1; simp only at this; omega)) 0).trans h2, h3⟩
  · intro b hb' hf
    exact hw b (fun e => hf id k _ hk hl e.symm)
  · intro i k2 l hi hl2
    unfold hset at hi
    split at hi
    · rename_i e; subst e; exact .inr ⟨id, k, l, hk, hl2, rfl⟩
    · exact .inr ⟨i, k2, l, hi, hl2, rfl⟩

theorem Tr.get_set_fun (t : Tr Blk) (id : Nat) (k : Blk) : (t.set id k).get = hset t.get id k := by
  funext j
  rw [Tr.get_set]
  rfl
theorem AH.get_set (H : AH) (id : Nat) (k : Blk) : (H.bs.set id k).get = hset H.bs.get id k := by
  funext j
  rw [Tr.get_set]
  rfl

theorem storeA_ok {E : Env} {γ : Cx} {N : Nat} {H H' : AH} {w : World} (h : Rel E γ N H.bs.get w) {b o : Nat} {l : List AV} {vs : List Value} (hs : storeA H b o l = some H') (hv : VRs γ l vs) :
    ∃ β ω σ, γ.loc b = some (β, ω, σ) ∧ H'.n = H.n ∧ ω + o + vs.length ≤ σ ∧ (∀ u ∈ vs, u.oneCell' = true) ∧ (∀ j, j < vs.length → (w.cell? ⟨β, ω + o + j, none⟩).isSome = true ∧ w.frozen? ⟨β, ω + o + j, none⟩ = false) ∧
      Rel E γ N H'.bs.get (w.setCells β (ω + o) vs) ∧ Nxt γ H.bs.get w H.n γ H'.bs.get (w.setCells β (ω + o) vs) H'.n := by
  unfold storeA at hs
  cases hk : H.bs.get b with
  | none => simp [hk] at hs
  | some k =>
    simp only [hk] at hs
    split at hs
    · rename_i hc
      simp only [Bool.and_eq_true, decide_eq_true_eq] at hc
      simp only [Option.some.injEq] at hs
      subst hs
      obtain ⟨β, ω, σ, hb⟩ := h.blk hk
      have hlen := hv.length
      have hfit := hb.fit
      have hp := relB_put hb hv hc.2 hc.1
      have := rel_set H.n h hk hb.loc hp (size_setCells _ _ _ _) (fun b' hb' => heap_setCells _ _ _ _ _ hb') (same_setCells _ _ _ _)
      refine ⟨β, ω, σ, hb.loc, rfl, by omega, VRs.oneCell hv hc.2, fun j hj => hb.there _ (by omega), ?_⟩
      simp only [AH.get_set]
      exact this
    · cases hs

theorem AH.new_ok {H H' : AH} {l : List AV} (h : H.new l = some H') : H'.n = H.n + 1 ∧ H'.bs.get = hset H.bs.get H.n ⟨l.length, Tr.nil.put 0 l⟩ ∧ l.all okc = true := by
  unfold AH.new at h
  split at h
  · simp only [Option.some.injEq] at h
    subst h
    exact ⟨rfl, AH.get_set _ _ _, by assumption⟩
  · cases h

/-- A row that goes on under a new name, where it lay. -/
theorem rel_rename {E : Env} {γ : Cx} {N : Nat} {H : HM} {w w' : World} {b id β ω ω' σ : Nat} {k k' : Blk}
    (h : Rel E γ N H w) (hk : H b = some k) (hl : γ.loc b = some (β, ω, σ)) (hid : γ.loc id = none) (hsz : w'.heap.size = w.heap.size) (hw : ∀ i, i ≠ β → w'.heap[i]? = w.heap[i]?)
    (hb : RelB (γ.bind id (β, ω', σ)) w' id k' β ω' σ) (hst : Same w w') :
    Rel E (γ.bind id (β, ω', σ)) N (hset (fun j => if j = b then none else H j) id k') w' ∧ Nxt γ H w id (γ.bind id (β, ω', σ)) (hset (fun j => if j = b then none else H j) id k') w' (id + 1) := by
  have hle := Cx.le_bind (β, ω', σ) hid
  have hlow := h.low hl
  simp only at hlow
  have hbid : b ≠ id := fun e => by subst e; rw [hl] at hid; cases hid
  refine ⟨⟨?_, ?_, ?_, ?_, h.sym⟩, ⟨hle, by omega, ?_, ?_, ?_, by omega, hst, fun {i k2} e => by
      unfold hset at e
      dsimp only at e
      split at e
      · rename_i e0; subst e0; exact .inr ⟨Nat.le_refl _, by omega⟩
      · split at e
        · cases e
        · exact .inl ⟨_, e⟩⟩⟩
  · intro i k2 hi
    unfold hset at hi
    dsimp only at hi
    split at hi
    · rename_i e
      subst e
      simp only [Option.some.injEq] at hi
      subst hi
      exact ⟨_, _, _, hb⟩
    · split at hi
      · cases hi
      · rename_i e1 e2
        obtain ⟨β2, ω2, σ2, hb2⟩ := h.blk hi
        exact ⟨β2, ω2, σ2, hb2.keep hle (hw _ (fun e => e2 (h.inj hi hk hb2.loc hl e)))⟩
  · intro i l e
    by_cases hi : i = id
    · subst hi
      rw [Cx.bind_same] at e
      simp only [Option.some.injEq] at e
      subst e
      simp only
      omega
    · rw [Cx.bind_ne _ hi] at e
      have := h.low e
      omega
  · intro i j k1 k2 l1 l2 hi hj h1 h2 he
    unfold hset at hi hj
    dsimp only at hi hj
    have key : ∀ {i : Nat} {k1 : Blk} {l1 : Nat × Nat × Nat}, i ≠ id → (if i = b then none else H i) = some k1 → (γ.bind id (β, ω', σ)).loc i = some l1 → l1.1 ≠ β := fun {i k1 l1} hi h1 h2 e => by
      split at h1
      · cases h1
      · rename_i e2
        rw [Cx.bind_ne _ hi] at h2
        exact e2 (h.inj h1 hk h2 hl e)
    have keyid : ∀ {l1 : Nat × Nat × Nat}, (γ.bind id (β, ω', σ)).loc id = some l1 → l1.1 = β := fun {l1} e => by
      rw [Cx.bind_same] at e
      simp only [Option.some.injEq] at e
      subst e
      rfl
    by_cases ei : id = i
    · by_cases ej : id = j
      · omega
      · subst ei
        rw [if_neg ej] at hj
        exact absurd (he.symm.trans (keyid h1)) (key (Ne.symm ej) hj h2)
    · rw [if_neg ei] at hi
      by_cases ej : id = j
      · subst ej
        exact absurd (he.trans (keyid h2)) (key (Ne.symm ei) hi h1)
      · rw [if_neg ej] at hj
        rw [Cx.bind_ne _ (Ne.symm ei)] at h1
        rw [Cx.bind_ne _ (Ne.symm ej)] at h2
        split at hi
        · cases hi
        · split at hj
          · cases hj
          · exact h.inj hi hj h1 h2 he
  · intro g v hg
    obtain ⟨h1, rv, h2, h3⟩ := h.glob hg
    exact ⟨h1, rv, (cell?_heap (hw g (by omega)) 0).trans h2, h3.mono hle⟩
  · intro i hi hf
    exact hw i (fun e => hf b k _ hk hl e.symm)
  · intro i k2 l hi hl2
    by_cases e : i = id
    · subst e
      rw [Cx.bind_same] at hl2
      simp only [Option.some.injEq] at hl2
      subst hl2
      exact .inr ⟨b, k, _, hk, hl, rfl⟩
    · unfold hset at hi
      dsimp only at hi
      rw [if_neg (Ne.symm e)] at hi
      split at hi
      · cases hi
      · rw [Cx.bind_ne _ e] at hl2
        exact .inr ⟨i, k2, l, hi, hl2, rfl⟩
  · intro i l e
    by_cases hi : i = id
    · subst hi; exact .inr ⟨Nat.le_refl _, by omega⟩
    · rw [Cx.bind_ne _ hi] at e
      exact .inl ⟨_, e⟩
end Go.Proofs.YteopodohghnokaaGreatDoor.Ex
end
section
namespace Go.Proofs.YteopodohghnokaaGreatDoor.Ex
open Go
set_option linter.unusedVariables false
set_option linter.unusedSimpArgs false

theorem tiOf_ok {P : Program} {t : TypeId} {i : TI} (h : tiOf P t = some i) :
    ∃ info d, P.info? t = some info ∧ P.underlying t = some d ∧ i = ⟨kindOf d, info.size, info.bytes, zeroOf P d info, plainEq P t d⟩ := by
  unfold tiOf at h
  cases h1 : P.info? t with
  | none => simp [h1] at h
  | some info =>
    cases h2 : P.underlying t with
    | none => simp [h1, h2] at h
    | some d =>
      simp only [h1, h2, Option.some.injEq] at h
      exact ⟨info, d, rfl, rfl, h.symm⟩
theorem zeroOf_ok {P : Program} {d : TypeDesc} {info : TypeInfo} {l : List AV} (h : zeroOf P d info = some l) : fldsOk P d = true ∧ ∃ z, info.zero = some z ∧ absCells z = some l := by
  unfold zeroOf at h
  cases hf : fldsOk P d
  · simp [hf] at h
  · simp only [hf, cond_true] at h
    cases hz : info.zero with
    | none => simp [hz] at h
    | some z => exact ⟨rfl, z, rfl, by simpa [hz] using h⟩
theorem kind_slice {d : TypeDesc} {e : TypeId} (h : kindOf d = .slice e) : d = .slice e := by
  cases d <;> simp [kindOf] at h; rw [h]
theorem kind_str {d : TypeDesc} (h : kindOf d = .str) : d = .string := by cases d <;> simp [kindOf] at h; rfl
theorem kind_int {d : TypeDesc} {k : IntKind} (h : kindOf d = .int k) : d = .int k := by cases d <;> simp [kindOf] at h; rw [h]
theorem kind_array {d : TypeDesc} {n : Nat} {e : TypeId} (h : kindOf d = .array n e) : d = .array n e := by
  cases d <;> simp [kindOf] at h; rw [h.1, h.2]
theorem kind_struct {d : TypeDesc} {fs : List (Nat × TypeId)} (h : kindOf d = .struct fs) : ∃ f, d = .struct f ∧ fs = f.toList.map fun x => (x.offset, x.type) := by
  cases d <;> simp [kindOf] at h; exact ⟨_, rfl, h.symm⟩
theorem kind_iface {d : TypeDesc} (h : kindOf d = .iface) : ∃ ms, d = .interface ms := by cases d <;> simp [kindOf] at h; exact ⟨_, rfl⟩
theorem kind_agg (d : TypeDesc) : (kindOf d).isAgg = true ↔ (∃ f, d = .struct f) ∨ (∃ n e, d = .array n e) := by
  cases d <;> simp [kindOf, TK.isAgg]

/-- What is asked of a runner's tables. -/
structure TyOk (E : Env) : Prop where
  ty : ∀ {t : TypeId} {i : TI}, E.ty.get t = some i → tiOf E.P t = some i

def FRel (γ : Cx) (F : Fr) (a : Act) : Prop := ∀ t, VR γ (tmpA F t) (a.tmps.getD t undef)

theorem opA_ok {γ : Cx} {F : Fr} {a : Act} (hF : FRel γ F a) {x : Operand} {v : AV} (h : opA F x = some v) : VR γ v (a.eval x) := by
  cases x <;> simp only [opA, Option.some.injEq] at h
  · subst h; exact hF _
  · exact absC_ok h
  · subst h; exact .glob _
  · subst h; exact .func .nil .nil
theorem opsA_ok {γ : Cx} {F : Fr} {a : Act} (hF : FRel γ F a) : ∀ {l : List Operand} {v : List AV}, opsA F l = some v → VRs γ v (l.map a.eval)
  | [], v, h => by simp [opsA] at h; subst h; exact .nil
  | x :: l, v, h => by
    simp only [opsA] at h
    cases hx : opA F x with
    | none => simp [hx] at h
    | some u =>
      cases hr : opsA F l with
      | none => simp [hx, hr] at h
      | some r =>
        simp [hx, hr] at h
        subst h
        exact .cons (opA_ok hF hx) (opsA_ok hF hr)

def R.n : R → Nat
  | .val _ H => H.n
  | .skip H => H.n
  | .call _ _ H => H.n
/-- The machine's operation does as the runner's. -/
def Does (E : Env) (γ : Cx) (N : Nat) (H : AH) (w : World) (s : Sem Next) : R → Prop
  | .val v H' => ∃ v' w' γ', s.run E.P w = .ok (.value v') w' ∧ VR γ' v v' ∧ Rel E γ' N H'.bs.get w' ∧ Nxt γ H.bs.get w H.n γ' H'.bs.get w' H'.n
  | .skip H' => ∃ w' γ', s.run E.P w = .ok .skip w' ∧ Rel E γ' N H'.bs.get w' ∧ Nxt γ H.bs.get w H.n γ' H'.bs.get w' H'.n
  | .call f args H' => H' = H ∧ ∃ args', VRs γ args args' ∧ s.run E.P w = (callFunc f args'.toArray).run E.P w

def asNext (s : Sem Value) : Sem Next := do pure (.value (← s))
theorem run_asNext {P : Program} {s : Sem Value} {w w' : World} {v : Value} (h : s.run P w = .ok v w') : (asNext s).run P w = .ok (.value v) w' := by
  simp [asNext, h]

section
variable {E : Env} {γ : Cx} {N : Nat} {H : AH} {w : World}
/-- An operation that leaves the world alone. -/
theorem does_val (h : Rel E γ N H.bs.get w) {s : Sem Next} {v : AV} {v' : Value} (hs : s.run E.P w = .ok (.value v') w) (hv : VR γ v v') : Does E γ N H w s (.val v H) :=
  ⟨v', w, γ, hs, hv, h, .refl _ _ _ _⟩
theorem vR_some {x : Option AV} {r : R} (h : vR H x = some r) : ∃ v, x = some v ∧ r = .val v H := by
  cases x with
  | none => simp [vR] at h
  | some v => simp only [vR, Option.some.injEq] at h; exact ⟨v, rfl, h.symm⟩

theorem fresh_new {H' : AH} {l : List AV} (h : H.new l = some H') (hf : ∀ id, H.n ≤ id → id < H'.n → γ.loc id = none) : γ.loc H.n = none :=
  hf _ (Nat.le_refl _) (by rw [(AH.new_ok h).1]; omega)
/-- A new block, whatever was drawn ahead of it. -/
theorem does_new (h : Rel E γ N H.bs.get w) (hN : N ≤ w.heap.size) {H' : AH} {l : List AV} (hn : H.new l = some H') (hf : ∀ id, H.n ≤ id → id < H'.n → γ.loc id = none)
    {s : Sem Next} {v' : Value} {w' : World} {cs : Array Value} {T : TypeId} {fz : Nat × Nat} {vs : List Value} {v : AV}
    (hs : s.run E.P w = .ok (.value v') w') (hw : w'.heap = w.heap.push (.cells cs T fz)) (hfz : ∀ i, i < cs.size → ¬ (fz.1 ≤ i ∧ i < fz.2))
    (hv : VRs γ l vs) (hl : vs.length ≤ cs.size) (hcs : ∀ i, i < vs.length → cs[i]? = vs[i]?) (hval : VR (γ.bind H.n (w.heap.size, 0, cs.size)) v v') (hst : Same w w' := by exact ⟨rfl, rfl, rfl⟩) : Does E γ N H w s (.val v H') := by
  obtain ⟨e1, e2, e3⟩ := AH.new_ok hn
  have := rel_new (id := H.n) h hN (fresh_new hn hf) hw hfz hv e3 hl hcs hst
  refine ⟨v', w', _, hs, hval, ?_, ?_⟩
  · rw [e2]; exact this.1
  · rw [e2, e1]; exact this.2
end
end Go.Proofs.YteopodohghnokaaGreatDoor.Ex
end
section
namespace Go.Proofs.YteopodohghnokaaGreatDoor.Ex
open Go
set_option linter.unusedVariables false
set_option linter.unusedSimpArgs false
section
variable {E : Env} {γ : Cx} {N : Nat} {H : AH} {w : World} {F : Fr} {a : Act}

theorem move_ok (h : Rel E γ N H.bs.get w) (hF : FRel γ F a) {x : Operand} {r : R} (hr : vR H (opA F x) = some r) {s : Sem Next} (hs : s = pure (.value (a.eval x))) : Does E γ N H w s r := by
  obtain ⟨v, hv, rfl⟩ := vR_some hr
  exact does_val h (by rw [hs]; rfl) (opA_ok hF hv)

theorem pick_ok (h : Rel E γ N H.bs.get w) (hF : FRel γ F a) {c x y : Operand} {r : R} (hr : pickX F c x y H = some r) :
    Does E γ N H w (do pure (Next.value (if ← asBool (a.eval c) then a.eval x else a.eval y))) r := by
  unfold pickX at hr
  cases hc : opA F c with
  | none => simp [hc] at hr
  | some u =>
    cases u <;> simp [hc] at hr
    rename_i t
    have h1 := opA_ok hF hc
    generalize a.eval c = cv at h1
    cases h1
    cases t <;> simp only at hr
    · obtain ⟨v, hv, rfl⟩ := vR_some hr
      exact does_val h (v' := a.eval y) (by simp [asBool]) (opA_ok hF hv)
    · obtain ⟨v, hv, rfl⟩ := vR_some hr
      exact does_val h (v' := a.eval x) (by simp [asBool]) (opA_ok hF hv)

theorem newR_some {l : List AV} {v : AV} {r : R} (h : newR H l v = some r) : ∃ H', H.new l = some H' ∧ r = .val v H' := by
  unfold newR at h
  cases hn : H.new l with
  | none => simp [hn] at h
  | some H' => simp only [hn, Option.some.injEq] at h; exact ⟨H', rfl, h.symm⟩

/-- A variable is made. -/
theorem newVar_ok (h : Rel E γ N H.bs.get w) (hN : N ≤ w.heap.size) {T : TypeId} {u : Value} {l : List AV} {H' : AH} (hv : VRs γ l u.cells.toList) (hn : H.new l = some H') (hf : ∀ id, H.n ≤ id → id < H'.n → γ.loc id = none)
    {s : Sem Value} (hs : s.run E.P w = .ok (.pointer (some ⟨w.heap.size, 0, none⟩)) (w.alloc (.cells u.cells T))) : Does E γ N H w (asNext s) (.val (.ptr H.n 0) H') := by
  refine does_new h hN hn hf (vs := u.cells.toList) (cs := u.cells) (T := T) (fz := (0, 0)) (run_asNext hs) rfl (fun i hi => by simp) hv (by simp) (fun i hi => by simp) ?_
  have := VR.ptr (γ := γ.bind H.n (w.heap.size, 0, u.cells.size)) (b := H.n) (o := 0) (Cx.bind_same _ _ _)
  simpa using this

theorem alloc_ok (ok : TyOk E) (h : Rel E γ N H.bs.get w) (hN : N ≤ w.heap.size) {t : TypeId} {r : R} (hr : allocX E t H = some r) (hf : ∀ id, H.n ≤ id → id < r.n → γ.loc id = none) :
    Does E γ N H w (asNext (Instr.alloc t true (.tuple #[]))) r := by
  unfold allocX at hr
  cases ht : E.ty.get t with
  | none => simp [ht] at hr
  | some i =>
    obtain ⟨info, d, h1, h2, rfl⟩ := tiOf_ok (ok.ty ht)
    simp only [ht] at hr
    cases hz : zeroOf E.P d info with
    | none => simp [hz] at hr
    | some l =>
      obtain ⟨_, z, hz1, hz2⟩ := zeroOf_ok hz
      simp only [hz] at hr
      obtain ⟨H', hn, rfl⟩ := newR_some hr
      exact newVar_ok (T := t) h hN (absCells_ok hz2) hn hf (by simp [Instr.alloc, zeroValue, typeInfo, h1, hz1, newVar, newRow])

theorem box_ok (h : Rel E γ N H.bs.get w) (hN : N ≤ w.heap.size) (hF : FRel γ F a) {t : TypeId} {x : Operand} {r : R} (hr : boxX F x H = some r) (hf : ∀ id, H.n ≤ id → id < r.n → γ.loc id = none) :
    Does E γ N H w (asNext (Instr.box t (a.eval x))) r := by
  unfold boxX at hr
  cases hx : opA F x with
  | none => simp [hx] at hr
  | some v =>
    simp only [hx] at hr
    obtain ⟨H', hn, rfl⟩ := newR_some hr
    have hv := opA_ok hF hx
    exact newVar_ok (T := t) h hN (hv.cells (.inl (AH.new_ok hn).2.2)) hn hf (by simp [Instr.box, newVar, newRow])

theorem isAgg_run {P : Program} {t : TypeId} {d : TypeDesc} (hu : P.underlying t = some d) : (isAgg t).run P w = .ok (kindOf d).isAgg w := by
  cases d <;> simp [isAgg, run_underlying hu, kindOf, TK.isAgg]

/-- What a variable, or an element, holds. -/
theorem loadT_ok (ok : TyOk E) (h : Rel E γ N H.bs.get w) {t : TypeId} {p v : AV} (hl : loadT E t p H = some v) {p' : Value} (hp : VR γ p p') : ∃ v', (Instr.loadAt t p').run E.P w = .ok v' w ∧ VR γ v v' := by
  unfold loadT at hl
  cases ht : E.ty.get t with
  | none => simp [ht] at hl
  | some i =>
    obtain ⟨info, d, h1, h2, rfl⟩ := tiOf_ok (ok.ty ht)
    simp only [ht] at hl
    cases hp <;> simp only at hl <;> try (cases hl; done)
    case ptr b o β ω σ hloc =>
      by_cases hagg : (kindOf d).isAgg = true
      · rw [if_pos hagg] at hl
        cases hc : loadA H b o info.size with
        | none => simp [hc] at hl
        | some l =>
          simp only [hc, Option.map_some, Option.some.injEq] at hl
          subst hl
          obtain ⟨β', ω', σ', vs, e1, e2, e3, e4, e5, e6⟩ := loadA_ok h hc
          rw [hloc] at e1
          simp only [Option.some.injEq, Prod.mk.injEq] at e1
          obtain ⟨rfl, rfl, rfl⟩ := e1
          have := run_loadCells_list (P := E.P) w _ vs e6
          rw [e3] at this
          refine ⟨.agg vs.toArray, ?_, .agg (by simpa using e2)⟩
          simp [Instr.loadAt, Instr.sureAddr, loadVar, isAgg_run h2, hagg, sizeOf, typeInfo, h1, this]
      · rw [if_neg hagg] at hl
        have hagg' : (kindOf d).isAgg = false := by simpa using hagg
        cases hc : loadA H b o 1 with
        | none => simp [hc] at hl
        | some l =>
          obtain ⟨β', ω', σ', vs, e1, e2, e3, e4, e5, e6⟩ := loadA_ok h hc
          rw [hloc] at e1
          simp only [Option.some.injEq, Prod.mk.injEq] at e1
          obtain ⟨rfl, rfl, rfl⟩ := e1
          simp only [hc] at hl
          split at hl
          · rename_i x hx
            simp only [Option.some.injEq] at hx hl
            subst hx hl
            cases e2 with
            | cons hx hr =>
              rename_i y r
              have hcell := e6 0 y rfl
              simp only [Addr.add_zero'] at hcell
              refine ⟨y, ?_, hx⟩
              simp [Instr.loadAt, Instr.sureAddr, loadVar, isAgg_run h2, hagg', hcell]
          · cases hl
    case glob g =>
      split at hl
      · cases hl
      · rename_i hagg
        have hagg' : (kindOf d).isAgg = false := by simpa using hagg
        obtain ⟨_, rv, e2, e3⟩ := h.glob hl
        exact ⟨rv, by simp [Instr.loadAt, Instr.sureAddr, loadVar, isAgg_run h2, hagg', e2], e3⟩

theorem load_ok (ok : TyOk E) (h : Rel E γ N H.bs.get w) (hF : FRel γ F a) {t : TypeId} {x : Operand} {r : R} (hr : loadX E F t x H = some r) :
    Does E γ N H w (asNext (Instr.loadAt t (a.eval x))) r := by
  unfold loadX at hr
  cases hx : opA F x with
  | none => simp [hx] at hr
  | some p =>
    simp only [hx] at hr
    obtain ⟨v, hv, rfl⟩ := vR_some hr
    obtain ⟨v', h1, h2⟩ := loadT_ok ok h hv (opA_ok hF hx)
    exact does_val h (run_asNext h1) h2

theorem store_ok (ok : TyOk E) (h : Rel E γ N H.bs.get w) (hF : FRel γ F a) {t : TypeId} {x y : Operand} {r : R} (hr : storeX E F t x y H = some r) :
    Does E γ N H w (do Instr.storeAt t (a.eval x) (a.eval y); pure Next.skip) r := by
  unfold storeX at hr
  cases hx : opA F x with
  | none => simp [hx] at hr
  | some p =>
    cases p <;> simp only [hx] at hr <;> try (cases hr; done)
    rename_i b off
    cases hy : opA F y with
    | none => simp [hy] at hr
    | some v =>
      cases ht : E.ty.get t with
      | none => simp [hy, ht] at hr
      | some i =>
        obtain ⟨info, d, h1, h2, rfl⟩ := tiOf_ok (ok.ty ht)
        simp only [hy, ht] at hr
        split at hr
        · rename_i hsz
          cases hs : storeA H b off v.cells with
          | none => simp [hs] at hr
          | some H' =>
            simp only [hs, Option.some.injEq] at hr
            subst hr
            have hp := opA_ok hF hx
            have hv := opA_ok hF hy
            generalize a.eval x = xv at hp
            generalize a.eval y = yv at hv
            cases hp with
            | ptr hloc =>
              rename_i β ω σ
              have hall : v.cells.all okc = true := by
                unfold storeA at hs
                split at hs
                · split at hs
                  · rename_i hc
                    simp only [Bool.and_eq_true, decide_eq_true_eq] at hc
                    exact hc.2
                  · cases hs
                · cases hs
              have hcells := hv.cells (.inl hall)
              obtain ⟨β', ω', σ', e1, e2, e3, e4, e5, e6, e7⟩ := storeA_ok h hs hcells
              rw [hloc] at e1
              simp only [Option.some.injEq, Prod.mk.injEq] at e1
              obtain ⟨rfl, rfl, rfl⟩ := e1
              have hrun := run_storeCells_cells (P := E.P) β (ω + off) yv.cells.toList 0 w (fun j hj => (e5 j hj).1) (fun j hj => (e5 j hj).2) e4
              refine ⟨_, γ, ?_, e6, e7⟩
              have hlen := hcells.length
              have : yv.cells.size = info.size := by rw [← hsz, hlen]; simp
              simp [Instr.storeAt, Instr.sureAddr, storeVar, sizeOf, typeInfo, h1, this, hrun]
        · cases hr

theorem nilCheck_ok (h : Rel E γ N H.bs.get w) (hF : FRel γ F a) {x : Operand} {r : R} (hr : nilCheckX F x H = some r) {o : Oper} (ho : o.op = .nilCheck x) : Does E γ N H w (execOp a.eval o) r := by
  unfold nilCheckX at hr
  cases hx : opA F x with
  | none => simp [hx] at hr
  | some v =>
    simp only [hx] at hr
    have hv := opA_ok hF hx
    generalize hxv : a.eval x = xv at hv
    cases hv <;> simp at hr <;> subst hr
    · rename_i hl; exact does_val h (by simp [execOp, ho, hxv]) (.ptr hl)
    · rename_i h1 h2; exact does_val h (by simp [execOp, ho, hxv]) (.func h1 h2)
    · rename_i h1; exact does_val h (by simp [execOp, ho, hxv]) (.iface h1)
    · exact does_val h (by simp [execOp, ho, hxv]) (.glob _)

theorem iface_ok (ok : TyOk E) (h : Rel E γ N H.bs.get w) (hF : FRel γ F a) {t : TypeId} {x : Operand} {r : R} (hr : ifaceX E F t x H = some r) : Does E γ N H w (asNext (Instr.makeInterface t (a.eval x))) r := by
  unfold ifaceX at hr
  cases hx : opA F x with
  | none => simp [hx] at hr
  | some v =>
    cases ht : E.ty.get t with
    | none => simp [hx, ht] at hr
    | some i =>
      obtain ⟨info, d, h1, h2, rfl⟩ := tiOf_ok (ok.ty ht)
      simp only [hx, ht] at hr
      have hv := opA_ok hF hx
      cases d <;> simp [kindOf] at hr <;> subst hr <;> exact does_val h (run_asNext (by simp [Instr.makeInterface, run_underlying h2])) (.iface hv)

theorem func_ok (h : Rel E γ N H.bs.get w) (hF : FRel γ F a) {f : FuncId} {x y : Array Operand} {r : R} (hr : funcX F f x.toList y.toList H = some r) : Does E γ N H w (asNext (Instr.makeFunc (.func f) (x.map a.eval) (y.map a.eval))) r := by
  unfold funcX at hr
  cases hx : opsA F x.toList with
  | none => simp [hx] at hr
  | some u =>
    cases hy : opsA F y.toList with
    | none => simp [hx, hy] at hr
    | some v =>
      simp [hx, hy] at hr
      subst hr
      exact does_val h (run_asNext (v := .func (.func f) (x.map a.eval) (y.map a.eval)) (by simp [Instr.makeFunc])) (.func (by simpa using opsA_ok hF hx) (by simpa using opsA_ok hF hy))

theorem extract_ok (h : Rel E γ N H.bs.get w) (hF : FRel γ F a) {x : Operand} {j : Nat} {r : R} (hr : extractX F x j H = some r) : Does E γ N H w (asNext (Instr.extract (a.eval x) j)) r := by
  unfold extractX at hr
  cases hx : opA F x with
  | none => simp [hx] at hr
  | some u =>
    cases u <;> simp only [hx] at hr <;> try (cases hr; done)
    rename_i l
    obtain ⟨v, hv, rfl⟩ := vR_some hr
    have hp := opA_ok hF hx
    generalize a.eval x = xv at hp
    cases hp with
    | tup hl =>
      rename_i l'
      obtain ⟨y, h1, h2⟩ := hl.get j hv
      have h1' : l'[j]? = some y := by simpa using h1
      exact does_val h (run_asNext (by simp [Instr.extract, h1'])) h2

theorem assert_ok (ok : TyOk E) (h : Rel E γ N H.bs.get w) (hF : FRel γ F a) {x : Operand} {xt t : TypeId} {b : Bool} {r : R} (hr : assertX E F x t b H = some r) : Does E γ N H w (asNext (Instr.typeAssert (a.eval x) xt t b)) r := by
  unfold assertX at hr
  cases hx : opA F x with
  | none => simp [hx] at hr
  | some u =>
    cases u <;> simp only [hx] at hr <;> try (cases hr; done)
    rename_i t' v
    cases ht : E.ty.get t with
    | none => simp [ht] at hr
    | some i =>
      obtain ⟨info, d, h1, h2, rfl⟩ := tiOf_ok (ok.ty ht)
      simp only [ht] at hr
      have hp := opA_ok hF hx
      generalize a.eval x = xv at hp
      cases hp with
      | iface hv =>
        rename_i v'
        have key : t' = t ∧ ∀ m, d ≠ .interface m := by
          cases d <;> simp [kindOf] at hr <;> exact ⟨hr.1, by simp⟩
        obtain ⟨rfl, hd⟩ := key
        cases b
        · have hr' : r = .val v H := by cases d <;> simp [kindOf] at hr <;> exact hr.symm
          subst hr'
          exact does_val h (run_asNext (v := v') (by cases d <;> first | exact absurd rfl (hd _) | simp [Instr.typeAssert, run_underlying h2])) hv
        · have hr' : r = .val (.tup [v, .bool true]) H := by cases d <;> simp [kindOf] at hr <;> exact hr.symm
          subst hr'
          exact does_val h (run_asNext (v := .tuple #[v', .bool true]) (by cases d <;> first | exact absurd rfl (hd _) | simp [Instr.typeAssert, run_underlying h2])) (.tup (.cons hv (.cons (.bool _) .nil)))
end
end Go.Proofs.YteopodohghnokaaGreatDoor.Ex
end
