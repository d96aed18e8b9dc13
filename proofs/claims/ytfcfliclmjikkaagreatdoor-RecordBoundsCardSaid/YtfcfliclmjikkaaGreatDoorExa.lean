/- A plain runner of a program's own text: one order, memory by names; whatever is not known stops it. -/
import Derived.WalkKit
namespace Go.Proofs.YtfcfliclmjikkaaGreatDoor.Ex
open Go
set_option linter.unusedVariables false

/-! ### Tables -/
structure N8 (α : Type) where
  mk ::
  a0 : α
  a1 : α
  a2 : α
  a3 : α
  a4 : α
  a5 : α
  a6 : α
  a7 : α
def N8.sel {α : Type} (n : N8 α) : Nat → α
  | 0 => n.a0
  | 1 => n.a1
  | 2 => n.a2
  | 3 => n.a3
  | 4 => n.a4
  | 5 => n.a5
  | 6 => n.a6
  | _ => n.a7
def N8.upd {α : Type} (n : N8 α) (i : Nat) (f : α → α) : N8 α := match n, i with
  | ⟨a0, a1, a2, a3, a4, a5, a6, a7⟩, 0 => ⟨f a0, a1, a2, a3, a4, a5, a6, a7⟩
  | ⟨a0, a1, a2, a3, a4, a5, a6, a7⟩, 1 => ⟨a0, f a1, a2, a3, a4, a5, a6, a7⟩
  | ⟨a0, a1, a2, a3, a4, a5, a6, a7⟩, 2 => ⟨a0, a1, f a2, a3, a4, a5, a6, a7⟩
  | ⟨a0, a1, a2, a3, a4, a5, a6, a7⟩, 3 => ⟨a0, a1, a2, f a3, a4, a5, a6, a7⟩
  | ⟨a0, a1, a2, a3, a4, a5, a6, a7⟩, 4 => ⟨a0, a1, a2, a3, f a4, a5, a6, a7⟩
  | ⟨a0, a1, a2, a3, a4, a5, a6, a7⟩, 5 => ⟨a0, a1, a2, a3, a4, f a5, a6, a7⟩
  | ⟨a0, a1, a2, a3, a4, a5, a6, a7⟩, 6 => ⟨a0, a1, a2, a3, a4, a5, f a6, a7⟩
  | ⟨a0, a1, a2, a3, a4, a5, a6, a7⟩, _ => ⟨a0, a1, a2, a3, a4, a5, a6, f a7⟩
def N8.all {α : Type} (x : α) : N8 α := ⟨x, x, x, x, x, x, x, x⟩
abbrev N64 (α : Type) := N8 (N8 α)
abbrev N512 (α : Type) := N8 (N64 α)
abbrev N4096 (α : Type) := N8 (N512 α)
abbrev N32768 (α : Type) := N8 (N4096 α)
/-- A table: numbers below 8 lie near, greater ones deeper. -/
structure Tr (α : Type) where
  s0 : N8 (Option α)
  s1 : N64 (Option α)
  s2 : N512 (Option α)
  s3 : N4096 (Option α)
  s4 : N32768 (Option α)
  rest : List (Nat × Option α)
def Tr.nil {α : Type} : Tr α := ⟨.all none, .all (.all none), .all (.all (.all none)), .all (.all (.all (.all none))), .all (.all (.all (.all (.all none)))), []⟩
def findL {α : Type} (i : Nat) : List (Nat × Option α) → Option α
  | [] => none
  | (j, x) :: l => match Nat.beq j i with
    | true => x
    | false => findL i l
def lvl (i : Nat) : Nat := match Nat.blt i 8 with
  | true => 0
  | false => match Nat.blt i 64 with
    | true => 1
    | false => match Nat.blt i 512 with
      | true => 2
      | false => match Nat.blt i 4096 with
        | true => 3
        | false => match Nat.blt i 32768 with
          | true => 4
          | false => 5
def Tr.get {α : Type} (t : Tr α) (i : Nat) : Option α := match lvl i with
  | 0 => t.s0.sel i
  | 1 => (t.s1.sel (i / 8)).sel (i % 8)
  | 2 => ((t.s2.sel (i / 64)).sel (i / 8 % 8)).sel (i % 8)
  | 3 => (((t.s3.sel (i / 512)).sel (i / 64 % 8)).sel (i / 8 % 8)).sel (i % 8)
  | 4 => ((((t.s4.sel (i / 4096)).sel (i / 512 % 8)).sel (i / 64 % 8)).sel (i / 8 % 8)).sel (i % 8)
  | _ => findL i t.rest
def Tr.upd {α : Type} (t : Tr α) (i : Nat) (x : Option α) : Tr α := match lvl i with
  | 0 => { t with s0 := t.s0.upd i fun _ => x }
  | 1 => { t with s1 := t.s1.upd (i / 8) fun a => a.upd (i % 8) fun _ => x }
  | 2 => { t with s2 := t.s2.upd (i / 64) fun a => a.upd (i / 8 % 8) fun a => a.upd (i % 8) fun _ => x }
  | 3 => { t with s3 := t.s3.upd (i / 512) fun a => a.upd (i / 64 % 8) fun a => a.upd (i / 8 % 8) fun a => a.upd (i % 8) fun _ => x }
  | 4 => { t with s4 := t.s4.upd (i / 4096) fun a => a.upd (i / 512 % 8) fun a => a.upd (i / 64 % 8) fun a => a.upd (i / 8 % 8) fun a => a.upd (i % 8) fun _ => x }
  | _ => { t with rest := (i, x) :: t.rest }
def Tr.set {α : Type} (t : Tr α) (i : Nat) (x : α) : Tr α := t.upd i (some x)
def Tr.del {α : Type} (t : Tr α) (i : Nat) : Tr α := t.upd i none
/-- A list's elements, from a place on. -/
def Tr.put {α : Type} (t : Tr α) : Nat → List α → Tr α
  | _, [] => t
  | i, x :: l => (t.set i x).put (i + 1) l
def Tr.take {α : Type} (t : Tr α) : Nat → Nat → Option (List α)
  | _, 0 => some []
  | i, n + 1 => match t.get i with
    | some x => match t.take (i + 1) n with
      | some l => some (x :: l)
      | none => none
    | none => none

/-! ### Values -/
inductive AV where
  | int (k : IntKind) (n : Int)
  | lin (k : IntKind) (i : Nat) (a c : Int)
  | bool (b : Bool)
  | str (s : List UInt8)
  | ptr (b o : Nat)
  | nilptr
  | slice (b o len es : Nat) (full : Bool)
  | nilslice
  | func (f : FuncId) (first captured : List AV)
  | nilFunc
  | iface (t : TypeId) (v : AV)
  | nilIface
  | agg (l : List AV)
  | tup (l : List AV)
  | glob (g : Nat)
  | opq (i : Nat)
  /-- what a loop over a function hands to that function -/
  | yld (y : Nat)

/-- A value that holds no place in memory. -/
def absV : Value → Option AV
  | .bool b => some (.bool b)
  | .int k n => some (.int k n)
  | .string s => some (.str s.data.toList)
  | .pointer none => some .nilptr
  | .slice none 0 0 => some .nilslice
  | .nilFunc => some .nilFunc
  | .nilIface => some .nilIface
  | .tuple ⟨[]⟩ => some (.tup [])
  | _ => none
def absAll : List Value → Option (List AV)
  | [] => some []
  | v :: l => match absV v with
    | some x => match absAll l with
      | some r => some (x :: r)
      | none => none
    | none => none
/-- Such a value's cells. -/
def absCells : Value → Option (List AV)
  | .agg a => absAll a.toList
  | v => match absV v with
    | some x => some [x]
    | none => none
/-- A word's value. -/
def absC (v : Value) : Option AV := match absV v with
  | some x => some x
  | none => match v with
    | .agg a => match absAll a.toList with
      | some l => some (.agg l)
      | none => none
    | _ => none
def AV.cells : AV → List AV
  | .agg l => l
  | v => [v]
def okc : AV → Bool
  | .agg _ => false
  | .tup _ => false
  | .yld _ => false
  | _ => true

/-! ### Memory -/
structure Blk where
  len : Nat
  cells : Tr AV
structure AH where
  n : Nat
  bs : Tr Blk

/-! ### What a type is -/
inductive TK where
  | slice (e : TypeId)
  | struct (fs : List (Nat × TypeId))
  | array (n : Nat) (e : TypeId)
  | int (k : IntKind)
  | bool
  | str
  | ptr
  | func
  | iface
  | other
structure TI where
  kind : TK
  size : Nat
  bytes : Nat
  zero : Option (List AV)
  /-- are structs of it held against one another by their parts alone? -/
  eq : Bool
def TK.isAgg : TK → Bool
  | .struct _ => true
  | .array _ _ => true
  | _ => false
def kindOf : TypeDesc → TK
  | .slice e => .slice e
  | .struct fs => .struct (fs.toList.map fun f => (f.offset, f.type))
  | .array n e => .array n e
  | .int k => .int k
  | .bool => .bool
  | .string => .str
  | .pointer _ => .ptr
  | .func _ _ _ => .func
  | .interface _ => .iface
  | _ => .other
def plainEq (P : Program) (t : TypeId) : TypeDesc → Bool
  | .struct fs => !P.eqGuardType P.depth t && !P.stoodInHeld t && fs.toList.all fun f => f.name != "_"
  | .array _ _ => false
  | _ => match P.info? t with
    | some i => i.comparable
    | none => false
def fldsOk (P : Program) : TypeDesc → Bool
  | .struct fs => fs.toList.all fun f => (P.info? f.type).isSome
  | _ => true
def zeroOf (P : Program) (d : TypeDesc) (i : TypeInfo) : Option (List AV) := bif fldsOk P d then i.zero.bind absCells else none
def tiOf (P : Program) (t : TypeId) : Option TI :=
  match P.info? t, P.underlying t with
  | some i, some d => some ⟨kindOf d, i.size, i.bytes, zeroOf P d i, plainEq P t d⟩
  | _, _ => none
structure FI where
  ntmps : Nat
  results : List ResultVar
  body : Code

structure Env where
  P : Program
  ty : Tr TI
  fn : Tr FI
  /-- the bounds of the unknown numbers -/
  syms : Tr (Int × Int)
  /-- what a variable of a package holds -/
  globs : Tr AV
  hook : FuncId → List AV → AH → Option (AV × AH)
  /-- functions that do nothing where they are deferred and nothing has failed -/
  quiet : FuncId → Bool := fun _ => false

def mkTys (P : Program) : Nat → Nat → Tr TI → Tr TI
  | _, 0, t => t
  | i, n + 1, t => mkTys P (i + 1) n (match tiOf P i with
    | some x => t.set i x
    | none => t)
def mkFns : Nat → List Func → Tr FI → Tr FI
  | _, [], t => t
  | i, f :: l, t => mkFns (i + 1) l (match f.body with
    | some c => if f.name == "runtime.NumGoroutine" then t else t.set i ⟨f.ntmps, f.results.toList, c⟩
    | none => t)

/-! ### Numbers -/
def lowOf : IntKind → Int
  | .i8 => -128
  | .i16 => -32768
  | .i32 => -2147483648
  | .i64 => -9223372036854775808
  | _ => 0
def highOf : IntKind → Int
  | .i8 => 127
  | .i16 => 32767
  | .i32 => 2147483647
  | .i64 => 9223372036854775807
  | .u8 => 255
  | .u16 => 65535
  | .u32 => 4294967295
  | .u64 => 18446744073709551615
def inKind (k : IntKind) (n : Int) : Bool := decide (lowOf k ≤ n) && decide (n ≤ highOf k)
def wrapF (k : IntKind) (n : Int) : Int := bif inKind k n then n else k.wrap n

structure Lin where
  i : Nat
  a : Int
  c : Int
def linOf : AV → Option (IntKind × Lin)
  | .int k n => some (k, ⟨0, 0, n⟩)
  | .lin k i a c => some (k, ⟨i, a, c⟩)
  | _ => none
def Lin.range (E : Env) (x : Lin) : Option (Int × Int) :=
  if x.a = 0 then some (x.c, x.c) else
  match E.syms.get x.i with
  | some (lo, hi) => if 0 ≤ x.a then some (x.a * lo + x.c, x.a * hi + x.c) else some (x.a * hi + x.c, x.a * lo + x.c)
  | none => none
def Lin.val (E : Env) (k : IntKind) (x : Lin) : Option AV :=
  if x.a = 0 then some (.int k (wrapF k x.c)) else
  match x.range E with
  | some (lo, hi) => if inKind k lo && inKind k hi then some (.lin k x.i x.a x.c) else none
  | none => none
def Lin.add (x y : Lin) : Option Lin :=
  if y.a = 0 then some ⟨x.i, x.a, x.c + y.c⟩
  else if x.a = 0 then some ⟨y.i, y.a, x.c + y.c⟩
  else if x.i = y.i then some ⟨x.i, x.a + y.a, x.c + y.c⟩
  else none
def Lin.neg (x : Lin) : Lin := ⟨x.i, -x.a, -x.c⟩
def Lin.mul (x y : Lin) : Option Lin :=
  if y.a = 0 then some ⟨x.i, x.a * y.c, x.c * y.c⟩
  else if x.a = 0 then some ⟨y.i, y.a * x.c, x.c * y.c⟩
  else none

def cmpI (op : BinOp) (x y : Int) : Option Bool :=
  match op with
  | .eql => some (x == y)
  | .neq => some (x != y)
  | .lss => some (decide (x < y))
  | .leq => some (decide (x ≤ y))
  | .gtr => some (decide (x > y))
  | .geq => some (decide (x ≥ y))
  | _ => none
/-- Is what lies between lo and hi, held against 0, the same for all? -/
def cmpR (op : BinOp) (lo hi : Int) : Option Bool :=
  if lo = hi then cmpI op lo 0 else
  match op with
  | .eql => if 0 < lo ∨ hi < 0 then some false else none
  | .neq => if 0 < lo ∨ hi < 0 then some true else none
  | .lss => if hi < 0 then some true else if 0 ≤ lo then some false else none
  | .leq => if hi ≤ 0 then some true else if 0 < lo then some false else none
  | .gtr => if 0 < lo then some true else if hi ≤ 0 then some false else none
  | .geq => if 0 ≤ lo then some true else if hi < 0 then some false else none
  | _ => none
def intOp (op : BinOp) (k : IntKind) (x y : Int) : Option AV :=
  match op with
  | .add => some (.int k (wrapF k (x + y)))
  | .sub => some (.int k (wrapF k (x - y)))
  | .mul => some (.int k (wrapF k (x * y)))
  | .quo => if y = 0 then none else some (.int k (wrapF k (x.tdiv y)))
  | .rem => if y = 0 then none else some (.int k (x.tmod y))
  | .and => some (.int k (k.wrap ((BitVec.ofInt k.bits x &&& BitVec.ofInt k.bits y).toNat)))
  | .or => some (.int k (k.wrap ((BitVec.ofInt k.bits x ||| BitVec.ofInt k.bits y).toNat)))
  | .xor => some (.int k (k.wrap ((BitVec.ofInt k.bits x ^^^ BitVec.ofInt k.bits y).toNat)))
  | .andNot => some (.int k (k.wrap ((BitVec.ofInt k.bits x &&& ~~~BitVec.ofInt k.bits y).toNat)))
  | .shl => if y < 0 then none else some (.int k (k.wrap (x * 2 ^ (min y.toNat k.bits))))
  | .shr => if y < 0 then none else some (.int k (x.fdiv (2 ^ (min y.toNat k.bits))))
  | _ => (cmpI op x y).map .bool
def linOp (E : Env) (op : BinOp) (k : IntKind) (x y : Lin) : Option AV :=
  match op with
  | .add => (x.add y).bind (·.val E k)
  | .sub => (x.add y.neg).bind (·.val E k)
  | .mul => (x.mul y).bind (·.val E k)
  | .rem => match x.range E with
    | some (lo, _) => if y.a = 0 ∧ 0 < y.c ∧ x.a % y.c = 0 ∧ 0 ≤ lo then some (.int k (x.c % y.c)) else none
    | none => none
  | .quo => match x.range E with
    | some (lo, _) => if y.a = 0 ∧ 0 < y.c ∧ x.a % y.c = 0 ∧ 0 ≤ lo then (Lin.mk x.i (x.a / y.c) (x.c / y.c)).val E k else none
    | none => none
  | op => match x.add y.neg with
    | some d => match d.range E with
      | some (lo, hi) => (cmpR op lo hi).map .bool
      | none => none
    | none => none
def strOp (op : BinOp) (x y : List UInt8) : Option AV :=
  match op with
  | .add => if x.length + y.length ≤ 1000000000 then some (.str (x ++ y)) else none
  | .eql => some (.bool (x == y))
  | .neq => some (.bool (!(x == y)))
  | .lss => some (.bool (Op.bytesLess x y))
  | .leq => some (.bool (Op.bytesLess x y || x == y))
  | .gtr => some (.bool (!(Op.bytesLess x y || x == y)))
  | .geq => some (.bool (!Op.bytesLess x y))
  | _ => none
def partA (i : TI) (cs : List AV) (o : Nat) : Option AV :=
  if i.kind.isAgg then some (.agg ((cs.drop o).take i.size)) else cs[o]?
/-- '==' by a type. -/
def eqLeaf (k : TK) (x y : AV) : Option Bool :=
  match k, x, y with
  | .bool, .bool a, .bool b => some (a == b)
  | .int _, .int k a, .int k' b => if k = k' then some (a == b) else none
  | .str, .str a, .str b => some (a == b)
  | .ptr, .nilptr, .nilptr => some true
  | .ptr, .nilptr, .ptr _ _ => some false
  | .ptr, .ptr _ _, .nilptr => some false
  | .slice _, .nilslice, .nilslice => some true
  | .slice _, .nilslice, .slice _ _ _ _ _ => some false
  | .slice _, .slice _ _ _ _ _, .nilslice => some false
  | .func, .nilFunc, .nilFunc => some true
  | .func, .nilFunc, .func _ _ _ => some false
  | .func, .func _ _ _, .nilFunc => some false
  | .iface, .nilIface, .iface _ _ => some false
  | .iface, .iface _ _, .nilIface => some false
  | _, _, _ => none
/-- Numbers that are not known, held against one another. -/
def eqLin (E : Env) (k : TK) (x y : AV) : Option Bool :=
  match k with
  | .int _ => match linOf x with
    | some (k, p) => match linOf y with
      | some (k', q) => if k = k' then match p.add q.neg with
          | some d => match d.range E with
            | some (lo, hi) => cmpR .eql lo hi
            | none => none
          | none => none
        else none
      | none => none
    | none => none
  | _ => none
def eqT (E : Env) : Nat → TypeId → AV → AV → Option Bool
  | 0, _, _, _ => none
  | n + 1, t, x, y =>
    match E.ty.get t with
    | none => none
    | some i => match i.kind, x, y with
      | .struct fs, .agg l, .agg r =>
        if i.eq then eqF (fun ft a b => eqT E n ft a b) l r fs else none
      | .iface, .iface t1 v1, .iface t2 v2 => match Nat.beq t1 t2 with
        | false => some false
        | true => match E.ty.get t1 with
          | some j => bif !j.kind.isAgg && j.eq then eqT E n t1 v1 v2 else none
          | none => none
      | k, x, y => match eqLeaf k x y with
        | some b => some b
        | none => eqLin E k x y
where
  eqF (eq : TypeId → AV → AV → Option Bool) (l r : List AV) : List (Nat × TypeId) → Option Bool
  | [] => some true
  | (o, ft) :: fs => match E.ty.get ft with
    | none => none
    | some j => match partA j l o, partA j r o with
      | some a, some b => match eq ft a b with
        | some true => eqF eq l r fs
        | q => q
      | _, _ => none
def binE (E : Env) (op : BinOp) (t : TypeId) (x y : AV) : Option AV :=
  match op with
  | .eql => (eqT E 20 t x y).map .bool
  | .neq => (eqT E 20 t x y).map fun b => .bool (!b)
  | _ => none
def binL (E : Env) (op : BinOp) (t : TypeId) (x y : AV) : Option AV :=
  match linOf x with
  | some (k, p) => match linOf y with
    | some (k', q) => if k = k' then linOp E op k p q else none
    | none => none
  | none => binE E op t x y
def isShift : BinOp → Bool
  | .shl => true
  | .shr => true
  | _ => false
def binA (E : Env) (op : BinOp) (t : TypeId) (x y : AV) : Option AV :=
  match x, y with
  | .int k a, .int k' b => if isShift op || decide (k = k') then intOp op k a b else none
  | .str a, .str b => strOp op a b
  | x, y => binL E op t x y
def unA (E : Env) (op : UnOp) (x : AV) : Option AV :=
  match op, x with
  | .neg, .int k n => some (.int k (wrapF k (0 - n)))
  | .neg, .lin k i a c => (Lin.neg ⟨i, a, c⟩).val E k
  | .not, .bool b => some (.bool (!b))
  | .xor, .int k n => intOp .xor k (if k.signed then -1 else k.max) n
  | _, _ => none

/-! ### Operations -/
abbrev Fr := Tr AV
def tmpA (F : Fr) (t : Tmp) : AV := match F.get t with
  | some v => v
  | none => .tup []
def opA (F : Fr) : Operand → Option AV
  | .tmp t => some (tmpA F t)
  | .const v => absC v
  | .global g => some (.glob g)
  | .func f => some (.func f [] [])
def opsA (F : Fr) : List Operand → Option (List AV)
  | [] => some []
  | x :: l => match opA F x with
    | some v => match opsA F l with
      | some r => some (v :: r)
      | none => none
    | none => none

def AH.new (H : AH) (l : List AV) : Option AH := if l.all okc then some ⟨H.n + 1, H.bs.set H.n ⟨l.length, Tr.nil.put 0 l⟩⟩ else none
def loadA (H : AH) (b o n : Nat) : Option (List AV) :=
  match H.bs.get b with
  | some k => if o + n ≤ k.len then k.cells.take o n else none
  | none => none
def storeA (H : AH) (b o : Nat) (l : List AV) : Option AH :=
  match H.bs.get b with
  | some k => if o + l.length ≤ k.len && l.all okc then some ⟨H.n, H.bs.set b ⟨k.len, k.cells.put o l⟩⟩ else none
  | none => none

def natOf : AV → Option Nat
  | .int _ n => match n with
    | .ofNat m => some m
    | .negSucc _ => none
  | _ => none

inductive R where
  | val (v : AV) (H : AH)
  | skip (H : AH)
  | call (f : FuncId) (args : List AV) (H : AH)

def loadT (E : Env) (t : TypeId) (a : AV) (H : AH) : Option AV :=
  match E.ty.get t with
  | none => none
  | some i =>
    match a with
    | .ptr b o =>
      if i.kind.isAgg then (loadA H b o i.size).map .agg
      else match loadA H b o 1 with
        | some [x] => some x
        | _ => none
    | .glob g => if i.kind.isAgg then none else E.globs.get g
    | _ => none
def fillA (cells : List AV) : List (Nat × List AV) → Option (List AV)
  | [] => some cells
  | (o, v) :: l => if o + v.length ≤ cells.length then fillA (cells.take o ++ v ++ cells.drop (o + v.length)) l else none
def replA (l : List AV) : Nat → List AV
  | 0 => []
  | n + 1 => l ++ replA l n
/-- A bound that may be left out. -/
def orNat (d : Nat) : Option AV → Option Nat
  | none => some d
  | some v => natOf v
/-- The bounds of a cut: low, high, the most. -/
def boundsA (len : Nat) (lo hi mx : Option AV) : Option (Nat × Nat × Nat) :=
  match orNat len mx with
  | none => none
  | some m => match orNat len hi with
    | none => none
    | some h => match orNat 0 lo with
      | none => none
      | some l => if m ≤ len ∧ h ≤ m ∧ l ≤ h ∧ (mx.isSome = true → hi.isSome = true) then some (l, h, m) else none
def optA (F : Fr) : Option Operand → Option (Option AV)
  | none => some none
  | some x => match opA F x with
    | some v => some (some v)
    | none => none
def sliceA (E : Env) (t : TypeId) (x : AV) (lo hi mx : Option AV) : Option AV :=
  match E.ty.get t with
  | none => none
  | some i => match i.kind, x with
    | .str, .str s => match mx with
      | some _ => none
      | none => match boundsA s.length lo hi none with
        | some (l, h, _) => some (.str ((s.take h).drop l))
        | none => none
    | .slice e, .nilslice => match E.ty.get e with
      | some _ => match boundsA 0 lo hi mx with
        | some _ => some .nilslice
        | none => none
      | none => none
    | .slice e, .slice b o len es full => match E.ty.get e with
      | some i => if i.size = es then match boundsA len lo hi mx with
        | some (l, h, m) => some (.slice b (o + l * es) (h - l) es (if mx.isSome then h == m else full && h == len))
        | none => none
        else none
      | none => none
    | _, _ => none
def fieldOf (E : Env) (t : TypeId) (f : Nat) : Option (Nat × TI) :=
  match E.ty.get t with
  | some i => match i.kind with
    | .struct fs => match fs[f]? with
      | some (o, ft) => match E.ty.get ft with
        | some i => if i.size = 0 then none else some (o, i)
        | none => none
      | none => none
    | _ => none
  | none => none
def lenA (E : Env) (t : TypeId) (x : AV) : Option Nat :=
  match E.ty.get t with
  | none => none
  | some i => match i.kind, x with
    | .str, .str s => some s.length
    | .slice _, .nilslice => some 0
    | .slice _, .slice _ _ n _ _ => some n
    | _, _ => none
def bytesA (s : List UInt8) : List AV := s.map fun c => .int .u8 c.toNat
def strOfA : List AV → Option (List UInt8)
  | [] => some []
  | x :: l => match x with
    | .int .u8 n => match strOfA l with
      | some r => some (UInt8.ofNat n.toNat :: r)
      | none => none
    | _ => none
/-- What a slice has room for, where it is known. -/
def capA (E : Env) (t : TypeId) (x : AV) : Option Nat :=
  match E.ty.get t with
  | none => none
  | some i => match i.kind, x with
    | .slice _, .nilslice => some 0
    | .slice _, .slice _ _ n _ true => some n
    | _, _ => none
/-- What is appended, or copied: how many elements, and their cells. -/
def addedA (E : Env) (t : TypeId) (size : Nat) (x : AV) (H : AH) : Option (Nat × List AV) :=
  match E.ty.get t with
  | none => none
  | some i => match i.kind, x with
    | .str, .str s => if size = 1 then some (s.length, bytesA s) else none
    | .slice _, .nilslice => some (0, [])
    | .slice _, .slice b o n es _ => if es = size then match loadA H b o (n * size) with
      | some l => some (n, l)
      | none => none
      else none
    | _, _ => none
def dropIf (full : Bool) (bs : Tr Blk) (b : Nat) : Tr Blk := match full with
  | true => bs
  | false => bs.del b
def growA (H : AH) (b o m n size : Nat) (full : Bool) (l : List AV) : Option R :=
  match H.bs.get b with
  | none => none
  | some k =>
    if o + m * size ≤ k.len then
      match o with
      | 0 => some (.val (.slice H.n 0 (m + n) size false) ⟨H.n + 1, (dropIf full H.bs b).set H.n ⟨m * size + l.length, k.cells.put (m * size) l⟩⟩)
      | _ => match k.cells.take o (m * size) with
        | some old => some (.val (.slice H.n 0 (m + n) size false) ⟨H.n + 1, (dropIf full H.bs b).set H.n ⟨m * size + l.length, Tr.nil.put 0 (old ++ l)⟩⟩)
        | none => none
    else none
def appendE (E : Env) (i : TI) (s : AV) (n : Nat) (l : List AV) (H : AH) : Option R :=
  match n with
  | 0 => match s with
    | .nilslice => some (.val s H)
    | .slice _ _ _ _ _ => some (.val s H)
    | _ => none
  | _ => match i.zero with
    | none => none
    | some z => if z.length = i.size ∧ l.all okc then
      match s with
      | .nilslice => if n * (i.bytes + 1) ≤ 1073741824 then match H.new l with
          | some H' => some (.val (.slice H.n 0 n i.size false) H')
          | none => none
        else none
      | .slice b o m es full => if es = i.size ∧ (m + n) * (i.bytes + 1) ≤ 1073741824 then growA H b o m n i.size full l else none
      | _ => none
      else none
def isIntTy (ty : Tr TI) (u : TypeId) : Bool := match ty.get u with
  | some i => match i.kind with
    | .int _ => true
    | _ => false
  | none => false
def isIntT (E : Env) (u : TypeId) : Bool := isIntTy E.ty u
/-- So many zeros, onto nothing. -/
def zerosA (i : TI) (s x : AV) (H : AH) : Option R :=
  match s, x with
  | .nilslice, .int _ (.ofNat n) => match i.zero with
    | some z => if 0 < n ∧ z.length = i.size ∧ n ≤ 1000000 ∧ n * (i.bytes + 1) ≤ 1073741824 then match H.new (replA z n) with
        | some H' => some (.val (.slice H.n 0 n i.size false) H')
        | none => none
      else none
    | none => none
  | _, _ => none
def appendA (E : Env) (t u : TypeId) (s x : AV) (H : AH) : Option R :=
  match E.ty.get t with
  | some i => match i.kind with
    | .slice e => match E.ty.get e with
      | some i => match isIntT E u with
        | true => zerosA i s x H
        | false => match addedA E u i.size x H with
          | none => none
          | some (n, l) => appendE E i s n l H
      | none => none
    | _ => none
  | none => none
def copyA (E : Env) (t u : TypeId) (d s : AV) (H : AH) : Option R :=
  match E.ty.get t with
  | some i => match i.kind with
    | .slice e => match E.ty.get e with
      | some i => match addedA E u i.size s H with
        | none => none
        | some (m, l) => match d with
          | .nilslice => some (.val (.int .i64 0) H)
          | .slice b o n es _ => if es = i.size then match storeA H b o (l.take ((Nat.min m n) * i.size)) with
              | some H' => some (.val (.int .i64 (Nat.min m n : Nat)) H')
              | none => none
            else none
          | _ => none
      | none => none
    | _ => none
  | none => none
def lessA (E : Env) (x y : AV) : Option Bool :=
  match linOf x with
  | some (k, p) => match linOf y with
    | some (k', q) => if k = k' then match linOp E .lss k p q with
        | some (.bool b) => some b
        | _ => none
      else none
    | none => none
  | none => none
/-- The least, the greatest. -/
def bestA (E : Env) (mx : Bool) : AV → List AV → Option AV
  | x, [] => some x
  | x, y :: l => match (match mx with
      | true => lessA E x y
      | false => lessA E y x) with
    | some true => bestA E mx y l
    | some false => bestA E mx x l
    | none => none
def convI (E : Env) (k : IntKind) (x : AV) (H : AH) : Option R :=
  match x with
  | .int _ n => some (.val (.int k (wrapF k n)) H)
  | .lin _ i a c => match (Lin.mk i a c).val E k with
    | some v => some (.val v H)
    | none => none
  | _ => none
def convB (E : Env) (e : TypeId) (x : AV) (H : AH) : Option R :=
  match E.ty.get e with
  | some i => match i.kind, x with
    | .int .u8, .str s => if i.size = 1 then match H.new (bytesA s) with
        | some H' => some (.val (.slice H.n 0 s.length 1 false) H')
        | none => none
      else none
    | _, _ => none
  | none => none
def convS (E : Env) (sk : TK) (x : AV) (H : AH) : Option R :=
  match x with
  | .str s => some (.val (.str s) H)
  | x => match sk with
    | .slice e => match E.ty.get e with
      | some i => match i.kind, x with
        | .int .u8, .nilslice => some (.val (.str []) H)
        | .int .u8, .slice b o n 1 _ => match loadA H b o n with
          | some l => match strOfA l with
            | some s => some (.val (.str s) H)
            | none => none
          | none => none
        | _, _ => none
      | none => none
    | _ => none
def convA (E : Env) (src dst : TypeId) (x : AV) (H : AH) : Option R :=
  match E.ty.get src with
  | none => none
  | some si => match E.ty.get dst with
    | none => none
    | some di => match di.kind with
      | .int k => convI E k x H
      | .slice e => match si.kind with
        | .str => convB E e x H
        | _ => none
      | .str => convS E si.kind x H
      | _ => none
def callA (fv : AV) (args : List AV) (H : AH) : Option R :=
  match fv with
  | .func f first cap => some (.call f (first ++ args ++ cap) H)
  | _ => none
def partsA (F : Fr) : List (Nat × Operand) → Option (List (Nat × AV))
  | [] => some []
  | (j, x) :: l => match opA F x with
    | some v => match partsA F l with
      | some r => some ((j, v) :: r)
      | none => none
    | none => none
def placeA (E : Env) (fs : List (Nat × TypeId)) : List (Nat × AV) → Option (List (Nat × List AV))
  | [] => some []
  | (j, v) :: l => match fs[j]? with
    | some (o, ft) => match E.ty.get ft with
      | some i => if v.cells.length = i.size then match placeA E fs l with
          | some r => some ((o, v.cells) :: r)
          | none => none
        else none
      | none => none
    | none => none
def placeS (size : Nat) : List (Nat × AV) → Option (List (Nat × List AV))
  | [] => some []
  | (j, v) :: l => if v.cells.length = size then match placeS size l with
      | some r => some ((j * size, v.cells) :: r)
      | none => none
    else none
def vR (H : AH) : Option AV → Option R
  | some v => some (.val v H)
  | none => none
def newR (H : AH) (l : List AV) (v : AV) : Option R :=
  match H.new l with
  | some H' => some (.val v H')
  | none => none
def pickX (F : Fr) (c a b : Operand) (H : AH) : Option R :=
  match opA F c with
  | some (.bool t) => match t with
    | true => vR H (opA F a)
    | false => vR H (opA F b)
  | _ => none
def allocX (E : Env) (t : TypeId) (H : AH) : Option R :=
  match E.ty.get t with
  | some i => match i.zero with
    | some z => newR H z (.ptr H.n 0)
    | none => none
  | none => none
def boxX (F : Fr) (x : Operand) (H : AH) : Option R :=
  match opA F x with
  | some v => newR H v.cells (.ptr H.n 0)
  | none => none
def fillR (H : AH) (z : List AV) : Option (List (Nat × List AV)) → Option R
  | some l => match fillA z l with
    | some cs => some (.val (.agg cs) H)
    | none => none
  | none => none
def buildX (E : Env) (F : Fr) (t : TypeId) (parts : List (Nat × Operand)) (H : AH) : Option R :=
  match E.ty.get t with
  | some i => match i.zero, partsA F parts with
    | some z, some ps => match i.kind with
      | .struct fs => if i.kind.isAgg then fillR H z (placeA E fs ps) else none
      | .array _ e => match E.ty.get e with
        | some j => fillR H z (placeS j.size ps)
        | none => none
      | _ => none
    | _, _ => none
  | none => none
def buildSliceX (E : Env) (F : Fr) (t : TypeId) (len : Nat) (parts : List (Nat × Operand)) (H : AH) : Option R :=
  match E.ty.get t with
  | some i => match i.kind with
    | .slice e => match E.ty.get e with
      | some j => match j.zero, partsA F parts with
        | some z, some ps => if z.length = j.size ∧ len * j.size ≤ 16777216 then match placeS j.size ps with
            | some l => match fillA (replA z len) l with
              | some cs => newR H cs (.slice H.n 0 len j.size true)
              | none => none
            | none => none
          else none
        | _, _ => none
      | none => none
    | _ => none
  | none => none
def loadX (E : Env) (F : Fr) (t : TypeId) (a : Operand) (H : AH) : Option R :=
  match opA F a with
  | some p => vR H (loadT E t p H)
  | none => none
def storeX (E : Env) (F : Fr) (t : TypeId) (a x : Operand) (H : AH) : Option R :=
  match opA F a with
  | some (.ptr b off) => match opA F x, E.ty.get t with
    | some v, some i => if v.cells.length = i.size then match storeA H b off v.cells with
        | some H' => some (.skip H')
        | none => none
      else none
    | _, _ => none
  | _ => none
def nilCheckX (F : Fr) (x : Operand) (H : AH) : Option R :=
  match opA F x with
  | some v => match v with
    | .ptr _ _ => some (.val v H)
    | .func _ _ _ => some (.val v H)
    | .iface _ _ => some (.val v H)
    | .glob _ => some (.val v H)
    | _ => none
  | none => none
def isK : Operand → Bool
  | .const _ => true
  | _ => false
def isIfc (ty : Tr TI) (t : TypeId) : Bool := match ty.get t with
  | some i => match i.kind with
    | .iface => true
    | _ => false
  | none => false
def nilOp : BinOp → Option AV
  | .eql => some (.bool true)
  | .neq => some (.bool false)
  | _ => none
/-- Nothing, held against a word for nothing. -/
def nilB (E : Env) (op : BinOp) (t : TypeId) (x y : Operand) (a b : AV) : Option AV :=
  match a, b with
  | .nilIface, .nilIface => bif (isK x || isK y) && isIfc E.ty t then nilOp op else none
  | _, _ => none
def binX (E : Env) (F : Fr) (op : BinOp) (t : TypeId) (x y : Operand) (H : AH) : Option R :=
  match opA F x with
  | some a => match opA F y with
    | some b => match nilB E op t x y a b with
      | some v => some (.val v H)
      | none => vR H (binA E op t a b)
    | none => none
  | none => none
def unX (E : Env) (F : Fr) (op : UnOp) (x : Operand) (H : AH) : Option R :=
  match opA F x with
  | some a => vR H (unA E op a)
  | none => none
def convX (E : Env) (F : Fr) (s d : TypeId) (x : Operand) (H : AH) : Option R :=
  match opA F x with
  | some a => convA E s d a H
  | none => none
def ifaceX (E : Env) (F : Fr) (t : TypeId) (x : Operand) (H : AH) : Option R :=
  match opA F x with
  | some a => match E.ty.get t with
    | some i => match i.kind with
      | .iface => none
      | _ => some (.val (.iface t a) H)
    | none => none
  | none => none
def funcX (F : Fr) (f : FuncId) (first cap : List Operand) (H : AH) : Option R :=
  match opsA F first with
  | some a => match opsA F cap with
    | some b => some (.val (.func f a b) H)
    | none => none
  | none => none
def makeSliceX (E : Env) (F : Fr) (t : TypeId) (l c : Operand) (H : AH) : Option R :=
  match E.ty.get t with
  | some i => match i.kind with
    | .slice e => match E.ty.get e, opA F l, opA F c with
      | some j, some lv, some cv => match j.zero, natOf lv, natOf cv with
        | some z, some n, some m => if n = m ∧ n * (j.bytes + j.size + 1) ≤ 1000000 ∧ z.length = j.size then newR H (replA z n) (.slice H.n 0 n j.size true) else none
        | _, _, _ => none
      | _, _, _ => none
    | _ => none
  | none => none
def sliceX (E : Env) (F : Fr) (t : TypeId) (x : Operand) (lo hi mx : Option Operand) (H : AH) : Option R :=
  match opA F x with
  | some a => match optA F lo, optA F hi, optA F mx with
    | some l, some h, some m => vR H (sliceA E t a l h m)
    | _, _, _ => none
  | none => none
def fieldAddrX (E : Env) (F : Fr) (t : TypeId) (x : Operand) (f : Nat) (H : AH) : Option R :=
  match opA F x with
  | some (.ptr b off) => match fieldOf E t f with
    | some (q, _) => some (.val (.ptr b (off + q)) H)
    | none => none
  | _ => none
def fieldX (E : Env) (F : Fr) (t : TypeId) (x : Operand) (f : Nat) (H : AH) : Option R :=
  match opA F x with
  | some (.agg cs) => match fieldOf E t f with
    | some (q, i) => vR H (partA i cs q)
    | none => none
  | _ => none
def indexAddrX (E : Env) (F : Fr) (t : TypeId) (x ix : Operand) (H : AH) : Option R :=
  match E.ty.get t, opA F x, opA F ix with
  | some i, some v, some j => match natOf j, i.kind, v with
    | some n, .slice e, .slice b off len es _ => match E.ty.get e with
      | some i => if n < len ∧ i.size = es then some (.val (.ptr b (off + n * es)) H) else none
      | none => none
    | some n, .array len e, .ptr b off => match E.ty.get e with
      | some i => if n < len then some (.val (.ptr b (off + n * i.size)) H) else none
      | none => none
    | _, _, _ => none
  | _, _, _ => none
def indexX (E : Env) (F : Fr) (t : TypeId) (x ix : Operand) (H : AH) : Option R :=
  match E.ty.get t, opA F x, opA F ix with
  | some i, some v, some j => match natOf j, i.kind, v with
    | some n, .str, .str s => match s[n]? with
      | some c => some (.val (.int .u8 c.toNat) H)
      | none => none
    | some n, .array len e, .agg cs => match E.ty.get e with
      | some i => if n < len then vR H (partA i cs (n * i.size)) else none
      | none => none
    | _, _, _ => none
  | _, _, _ => none
def assertX (E : Env) (F : Fr) (x : Operand) (asserted : TypeId) (ok : Bool) (H : AH) : Option R :=
  match opA F x with
  | some (.iface t v) => match E.ty.get asserted with
    | some i => match i.kind with
      | .iface => none
      | _ => if t = asserted then some (.val (match ok with
          | true => .tup [v, .bool true]
          | false => v) H) else none
    | none => none
  | _ => none
def extractX (F : Fr) (x : Operand) (j : Nat) (H : AH) : Option R :=
  match opA F x with
  | some (.tup l) => vR H (l[j]?)
  | _ => none
def clearX (E : Env) (t : TypeId) (x : AV) (H : AH) : Option R :=
  match E.ty.get t with
  | some i => match i.kind with
    | .slice e => match E.ty.get e with
      | some j => match j.zero, x with
        | _, .nilslice => some (.val (.tup []) H)
        | some z, .slice b off n es _ => if es = j.size ∧ z.length = j.size then match storeA H b off (replA z n) with
            | some H' => some (.val (.tup []) H')
            | none => none
          else none
        | _, _ => none
      | none => none
    | _ => none
  | none => none
def builtinX (E : Env) (b : Builtin) (ts : Array TypeId) (xs : List AV) (H : AH) : Option R :=
  match b with
  | .len => match ts[0]?, xs with
    | some t, [x] => match lenA E t x with
      | some n => some (.val (.int .i64 n) H)
      | none => none
    | _, _ => none
  | .append => match ts.toList, xs with
    | [t, u], [s, x] => appendA E t u s x H
    | _, _ => none
  | .cap => match ts[0]?, xs with
    | some t, [x] => match capA E t x with
      | some n => some (.val (.int .i64 n) H)
      | none => none
    | _, _ => none
  | .min => match xs with
    | x :: l => vR H (bestA E false x l)
    | _ => none
  | .max => match xs with
    | x :: l => vR H (bestA E true x l)
    | _ => none
  | .clear => match ts.toList, xs with
    | [t], [x] => clearX E t x H
    | _, _ => none
  | _ => none
def callX (E : Env) (F : Fr) (c : Call) (H : AH) : Option R :=
  match opsA F c.args.toList with
  | none => none
  | some xs => match c.callee with
    | .value f => match opA F f with
      | some fv => callA fv xs H
      | none => none
    | .invoke _ _ => none
    | .builtin b => builtinX E b c.argTypes xs H
def exOp (E : Env) (F : Fr) (o : Op) (H : AH) : Option R :=
  match o with
  | .move x => vR H (opA F x)
  | .assign x => vR H (opA F x)
  | .pick c a b => pickX F c a b H
  | .alloc t => allocX E t H
  | .box _ x => boxX F x H
  | .build t parts => buildX E F t parts.toList H
  | .buildSlice t len parts => buildSliceX E F t len parts.toList H
  | .load t a => loadX E F t a H
  | .store t a x => storeX E F t a x H
  | .nilCheck x => nilCheckX F x H
  | .binOp op t x y _ => binX E F op t x y H
  | .unOp op _ x => unX E F op x H
  | .convert s d x => convX E F s d x H
  | .makeInterface t x => ifaceX E F t x H
  | .makeFunc f first cap => match f with
    | .func f => funcX F f first.toList cap.toList H
    | _ => none
  | .makeSlice t l c => makeSliceX E F t l c H
  | .slice t x lo hi mx => sliceX E F t x lo hi mx H
  | .fieldAddr t x f => fieldAddrX E F t x f H
  | .field t x f => fieldX E F t x f H
  | .indexAddr t x ix => indexAddrX E F t x ix H
  | .index t x ix => indexX E F t x ix H
  | .typeAssert x _ asserted ok => assertX E F x asserted ok H
  | .extract x j => extractX F x j H
  | .call c => callX E F c H
  | _ => none

/-! ### Code -/
inductive Ext where
  | normal
  | exit (id : Nat)
  | ret
structure St where
  F : Fr
  H : AH
abbrev CallF := FuncId → List AV → AH → Option (AV × AH)
def putA (nt : Nat) (F : Fr) (d : Option Tmp) (v : AV) : Option Fr :=
  match d with
  | none => some F
  | some t => if t < nt then some (F.set t v) else none
def wantedA (ops : Array Oper) (F : Fr) (o : Oper) : Option Bool :=
  match o.guard with
  | none => some true
  | some (j, want) => match ops[j]? with
    | some g => match g.dst with
      | some t => match tmpA F t with
        | .bool b => some (b == want)
        | .tup _ => some false
        | _ => none
      | none => some false
    | none => some false
/-- What an operation gives is put into its slot, its call gone through. -/
def finA (call : CallF) (nt : Nat) (F : Fr) (d : Option Tmp) (r : R) : Option St :=
  match r with
  | .val v H' => match putA nt F d v with
    | some F' => some ⟨F', H'⟩
    | none => none
  | .skip H' => match putA nt F d (.tup []) with
    | some F' => some ⟨F', H'⟩
    | none => none
  | .call f args H' => match call f args H' with
    | some (v, H'') => match putA nt F d v with
      | some F' => some ⟨F', H''⟩
      | none => none
    | none => none
def exOne (E : Env) (call : CallF) (nt : Nat) (ops : Array Oper) (o : Oper) (F : Fr) (H : AH) : Option St :=
  match wantedA ops F o with
  | some true => match exOp E F o.op H with
    | some r => finA call nt F o.dst r
    | none => none
  | some false => match putA nt F o.dst (.tup []) with
    | some F' => some ⟨F', H⟩
    | none => none
  | none => none
/-- A quiet function is deferred. -/
def deferA (E : Env) (F : Fr) (o : Oper) : Bool := match o.op, o.guard, o.dst with
  | .defer c, none, none => match c.callee, c.args.toList with
    | .value f, [] => match opA F f with
      | some (.func g [] [_]) => E.quiet g
      | _ => false
    | _, _ => false
  | _, _, _ => false
def exList (E : Env) (call : CallF) (nt : Nat) (ops : Array Oper) : List Oper → Fr → AH → Option St
  | [], F, H => some ⟨F, H⟩
  | o :: l, F, H => match exOne E call nt ops o F H with
    | some s => exList E call nt ops l s.F s.H
    | none => match deferA E F o with
      | true => exList E call nt ops l F H
      | false => none

/-! ### A region whose order is open -/
inductive OK where
  | pure
  | load (t : TypeId) (a : Operand)
  | alloc
  | spine
def okOf (ty : Tr TI) : Op → OK
  | .convert _ d _ => match isIntTy ty d with
    | true => .pure
    | false => .spine
  | .move _ => .pure
  | .assign _ => .pure
  | .pick _ _ _ => .pure
  | .build _ _ => .pure
  | .nilCheck _ => .pure
  | .binOp _ _ _ _ _ => .pure
  | .unOp _ _ _ => .pure
  | .makeInterface _ _ => .pure
  | .makeFunc _ _ _ => .pure
  | .slice _ _ _ _ _ => .pure
  | .fieldAddr _ _ _ => .pure
  | .field _ _ _ => .pure
  | .indexAddr _ _ _ => .pure
  | .index _ _ _ => .pure
  | .typeAssert _ _ _ _ => .pure
  | .extract _ _ => .pure
  | .load t a => .load t a
  | .alloc _ => .alloc
  | .box _ _ => .alloc
  | .buildSlice _ _ _ => .alloc
  | .makeSlice _ _ _ => .alloc
  | .call c => match c.callee with
    | .builtin .len => .pure
    | .builtin .min => .pure
    | .builtin .max => .pure
    | _ => .spine
  | _ => .spine
def slotsOf1 : Operand → List Tmp
  | .tmp t => [t]
  | _ => []
def slotsOf : List Operand → List Tmp
  | [] => []
  | x :: l => slotsOf1 x ++ slotsOf l
def slotsO : Option Operand → List Tmp
  | none => []
  | some x => slotsOf1 x
def slotsP : List (Nat × Operand) → List Tmp
  | [] => []
  | (_, x) :: l => slotsOf1 x ++ slotsP l
/-- The slots that an operation reads. -/
def readsOf : Op → List Tmp
  | .move x => slotsOf1 x
  | .assign x => slotsOf1 x
  | .pick a b c => slotsOf [a, b, c]
  | .alloc _ => []
  | .box _ x => slotsOf1 x
  | .build _ ps => slotsP ps.toList
  | .buildSlice _ _ ps => slotsP ps.toList
  | .load _ a => slotsOf1 a
  | .store _ a x => slotsOf [a, x]
  | .nilCheck x => slotsOf1 x
  | .binOp _ _ x y _ => slotsOf [x, y]
  | .unOp _ _ x => slotsOf1 x
  | .convert _ _ x => slotsOf1 x
  | .makeInterface _ x => slotsOf1 x
  | .makeFunc _ a b => slotsOf a.toList ++ slotsOf b.toList
  | .makeSlice _ l c => slotsOf [l, c]
  | .slice _ x a b c => slotsOf1 x ++ (slotsO a ++ (slotsO b ++ slotsO c))
  | .fieldAddr _ x _ => slotsOf1 x
  | .field _ x _ => slotsOf1 x
  | .indexAddr _ x y => slotsOf [x, y]
  | .index _ x y => slotsOf [x, y]
  | .typeAssert x _ _ _ => slotsOf1 x
  | .extract x _ => slotsOf1 x
  | .call c => slotsOf c.args.toList ++ (match c.callee with
    | .value f => slotsOf1 f
    | _ => [])
  | _ => []

/-- What waits for what, as a number's bits. -/
def edgesOf (o : Oper) : List Nat := (o.after.toList.filter (Region.binds .any)).map (·.on)
def bitOf (i : Nat) : Nat := Nat.shiftLeft 1 i
def maskOf (acc : List Nat) : List Nat → Nat
  | [] => 0
  | p :: l => Nat.lor (Nat.lor (bitOf p) (acc.getD p 0)) (maskOf acc l)
def bitsOf : List Nat → Nat
  | [] => 0
  | p :: l => Nat.lor (bitOf p) (bitsOf l)
def masks : List Oper → List Nat → List Nat
  | [], acc => acc
  | o :: l, acc => masks l (acc ++ [maskOf acc (edgesOf o)])
def isSpine (ty : Tr TI) (o : Oper) : Bool := match okOf ty o.op with
  | .spine => true
  | _ => false
/-- Is each bit of a number one of the other's? -/
def within (a b : Nat) : Bool := Nat.beq (Nat.lor a b) b
def chk (ty : Tr TI) (ops : Array Oper) (ms : List Nat) : List Nat → Nat → Bool
  | [], seen => Nat.beq (seen + 1) (Nat.shiftLeft 1 ops.size)
  | i :: l, seen => match ops[i]? with
    | none => false
    | some o => within (bitsOf (edgesOf o)) seen && !(Nat.testBit seen i) && (!(isSpine ty o) || within seen (ms.getD i 0)) && chk ty ops ms l (Nat.lor seen (bitOf i))
/-- Is a slot's writer, if it is another one, ordered with who reads it? -/
def ordOne (ms : List Nat) (j : Nat) (t : Tmp) : List Oper → Nat → Bool
  | [], _ => true
  | o :: l, i => (match o.dst with
    | none => true
    | some d => !(Nat.beq d t) || Nat.beq i j || Nat.testBit (ms.getD j 0) i || Nat.testBit (ms.getD i 0) j) && ordOne ms j t l (i + 1)
def guardReads (ops : Array Oper) (o : Oper) : List Tmp := match o.guard with
  | none => []
  | some (g, _) => match ops[g]? with
    | some p => match p.dst with
      | some t => [t]
      | none => []
    | none => []
def allReads (ops : Array Oper) (o : Oper) : List Tmp := guardReads ops o ++ readsOf o.op
def ordAll (ops : Array Oper) (ms : List Nat) : List Oper → Nat → Bool
  | [], _ => true
  | o :: l, j => ((allReads ops o).all fun t => ordOne ms j t ops.toList 0) && ordAll ops ms l (j + 1)
def dstsOf : List Oper → List Tmp
  | [] => []
  | o :: l => match o.dst with
    | some t => t :: dstsOf l
    | none => dstsOf l
def nodupB : List Nat → Bool
  | [] => true
  | t :: l => !(l.any (Nat.beq t)) && nodupB l
/-- The order: each one that acts as early as it may, all that it waits for just ahead of it. -/
def emit (m : Nat) : Nat → Nat → Nat → List Nat
  | 0, _, _ => []
  | n + 1, i, seen => if Nat.testBit m i && !(Nat.testBit seen i) then i :: emit m n (i + 1) seen else emit m n (i + 1) seen
def canon (ty : Tr TI) (n : Nat) (ms : List Nat) : List Oper → Nat → Nat → List Nat
  | [], _, seen => emit (Nat.shiftLeft 1 n - 1) n 0 seen
  | o :: l, i, seen => match isSpine ty o with
    | true => emit (ms.getD i 0) i 0 seen ++ i :: canon ty n ms l (i + 1) (Nat.lor seen (Nat.lor (ms.getD i 0) (bitOf i)))
    | false => canon ty n ms l (i + 1) seen
def ageOf (m : Nat) : List Nat → Nat
  | [] => 0
  | c :: l => match Nat.testBit m c with
    | true => 0
    | false => ageOf m l + 1
def spineAt (ty : Tr TI) (ops : Array Oper) (i : Nat) : Bool := match ops[i]? with
  | some o => isSpine ty o
  | none => false
/-- With each, how many elder memories its read is held against. -/
def withAge (ty : Tr TI) (ops : Array Oper) (ms : List Nat) : List Nat → List Nat → List (Nat × Nat)
  | [], _ => []
  | i :: l, sps => (i, ageOf (ms.getD i 0) sps) :: withAge ty ops ms l (match spineAt ty ops i with
    | true => i :: sps
    | false => sps)
def planOf (ty : Tr TI) (ops : Array Oper) : Option (List (Nat × Nat)) :=
  let ms := masks ops.toList []
  let L := canon ty ops.size ms ops.toList 0 0
  if chk ty ops ms L 0 && ordAll ops ms ops.toList 0 && nodupB (dstsOf ops.toList) then some (withAge ty ops ms L []) else none

mutual
def eqAV : AV → AV → Bool
  | .int k a, .int k' b => decide (k = k') && decide (a = b)
  | .lin k i a c, .lin k' i' a' c' => decide (k = k') && decide (i = i') && decide (a = a') && decide (c = c')
  | .bool a, .bool b => a == b
  | .str a, .str b => decide (a = b)
  | .ptr a b, .ptr a' b' => decide (a = a') && decide (b = b')
  | .nilptr, .nilptr => true
  | .slice a b c d e, .slice a' b' c' d' e' => decide (a = a') && decide (b = b') && decide (c = c') && decide (d = d') && e == e'
  | .nilslice, .nilslice => true
  | .func f a b, .func f' a' b' => decide (f = f') && eqAVs a a' && eqAVs b b'
  | .nilFunc, .nilFunc => true
  | .iface t v, .iface t' v' => decide (t = t') && eqAV v v'
  | .nilIface, .nilIface => true
  | .agg l, .agg l' => eqAVs l l'
  | .tup l, .tup l' => eqAVs l l'
  | .glob g, .glob g' => decide (g = g')
  | .opq i, .opq j => decide (i = j)
  | _, _ => false
def eqAVs : List AV → List AV → Bool
  | [], [] => true
  | x :: l, y :: r => eqAV x y && eqAVs l r
  | _, _ => false
end
/-- Was it so in each of the elder memories, too? -/
def wasSo (E : Env) (t : TypeId) (p v : AV) (ini : Tr Blk) : List AH → Bool
  | [] => true
  | h :: l => (match (match p with
    | .ptr b _ => (match h.bs.get b with
      | some _ => loadT E t p h
      | none => if h.n ≤ b then loadT E t p ⟨0, ini⟩ else none)
    | _ => loadT E t p h) with
    | some u => eqAV u v
    | none => false) && wasSo E t p v ini l
def exDraw (E : Env) (call : CallF) (nt : Nat) (ops : Array Oper) : List (Nat × Nat) → Fr → AH → List AH → Tr Blk → Option St
  | [], F, H, _, _ => some ⟨F, H⟩
  | (i, d) :: l, F, H, past, ini => match ops[i]? with
    | none => none
    | some o => match exOne E call nt ops o F H with
      | none => none
      | some s => match okOf E.ty o.op with
        | .pure => exDraw E call nt ops l s.F s.H past ini
        | .spine => exDraw E call nt ops l s.F s.H (s.H :: past) ini
        | .alloc => exDraw E call nt ops l s.F s.H past (match wantedA ops F o with
          | some true => (match s.H.bs.get H.n with
            | some k => ini.set H.n k
            | none => ini)
          | _ => ini)
        | .load t a => match d with
          | 0 => exDraw E call nt ops l s.F s.H past ini
          | _ => match (match wantedA ops F o with
              | some false => true
              | none => false
              | some true => match opA F a with
                | some p => match loadT E t p H with
                  | some v => wasSo E t p v ini (past.tail.take d)
                  | none => false
                | none => false) with
            | true => exDraw E call nt ops l s.F s.H past ini
            | false => none
/-- Does a list hold all numbers below another? -/
def holdsTo : Nat → List Nat → Bool
  | 0, _ => true
  | n + 1, l => l.any (Nat.beq n) && holdsTo n l
/-- The last three: a place is found, and two are written, the order of the two is open. -/
def tailOk (ty : Tr TI) (m : Nat) (p q r : Oper) : Bool := match p.guard, q.guard, r.guard, p.dst, q.dst, r.dst with
  | none, none, none, some t, none, none => match okOf ty p.op, q.op, r.op with
    | .pure, .store _ _ _, .store _ a x => holdsTo m (edgesOf p) && holdsTo (m + 1) (edgesOf q) && holdsTo m (edgesOf r) && !((slotsOf [a, x]).any (Nat.beq t))
    | _, _, _ => false
  | _, _, _, _, _, _ => false
def wellIn (m : Nat) : List Oper → Bool
  | [] => true
  | o :: l => (match o.guard with
    | none => true
    | some (j, _) => Nat.blt j m) && wellIn m l
/-- Does each wait for elder ones alone? -/
def fwd : Nat → List Oper → Bool
  | _, [] => true
  | i, o :: l => (edgesOf o).all (Nat.blt · i) && fwd (i + 1) l
def blockOf (F : Fr) : Op → Option Nat
  | .store _ a _ => match opA F a with
    | some (.ptr b _) => some b
    | _ => none
  | _ => none
def exTail (E : Env) (call : CallF) (nt : Nat) (ops : Array Oper) (p q r : Oper) (F : Fr) (H : AH) : Option St :=
  match exOne E call nt ops p F H with
  | none => none
  | some s1 => match blockOf s1.F q.op, blockOf s1.F r.op with
    | some b, some c => match Nat.beq b c with
      | true => none
      | false => match exOne E call nt ops q s1.F s1.H with
        | none => none
        | some s2 => exOne E call nt ops r s2.F s2.H
    | _, _ => none
/-- A region in two: what stands ahead of the last three, and these. -/
def cutOf (ty : Tr TI) (ops : Array Oper) : Option (List (Nat × Nat) × Oper × Oper × Oper) :=
  match ops.size with
  | m + 3 => match ops[m]?, ops[m + 1]?, ops[m + 2]? with
    | some p, some q, some r => match tailOk ty m p q r && wellIn m (ops.toList.take m) && fwd 0 ops.toList with
      | true => match planOf ty (ops.extract 0 m) with
        | some L => some (L, p, q, r)
        | none => none
      | false => none
    | _, _, _ => none
  | _ => none
def exReg (E : Env) (call : CallF) (nt : Nat) (ops : Array Oper) (draw : Bool) (F : Fr) (H : AH) : Option St :=
  match draw with
  | false => exList E call nt ops ops.toList F H
  | true => match planOf E.ty ops with
    | some L => exDraw E call nt ops L F H [H] .nil
    | none => match cutOf E.ty ops with
      | some (L, p, q, r) => match exDraw E call nt (ops.extract 0 (ops.size - 3)) L F H [H] .nil with
        | some s => exTail E call nt ops p q r s.F s.H
        | none => none
      | none => none

def resultsA (E : Env) (F : Fr) (H : AH) : List ResultVar → Option (List AV)
  | [] => some []
  | .tmp t :: l => match resultsA E F H l with
    | some r => some (tmpA F t :: r)
    | none => none
  | .cell a t :: l => match tmpA F a with
    | .ptr b o => match loadT E t (.ptr b o) H with
      | some v => match resultsA E F H l with
        | some r => some (v :: r)
        | none => none
      | none => none
    | _ => none

/-! ### A range over a function -/
def isDefer : Op → Bool
  | .defer _ => true
  | _ => false
def noRange : Code → Bool
  | .region _ ops _ => ops.toList.all fun o => !isDefer o.op
  | .seq a b => noRange a && noRange b
  | .cond _ a b => noRange a && noRange b
  | .block _ a => noRange a
  | .loop a => noRange a
  | .scope a => noRange a
  | .rangeFunc _ _ _ _ => false
  | _ => true
abbrev RoundF := List AV → AH → Option (Ext × AH)
/-- An iterator's state: its own, and how a round was left that does not go on. -/
structure IS where
  F : Fr
  H : AH
  p : Option Ext
def pendOf : Ext → Option Ext
  | .normal => none
  | e => some e
def goesOn : Ext → Bool
  | .normal => true
  | _ => false
def yieldX (rounds : RoundF) (nt y : Nat) (ops : Array Oper) (o : Oper) (s : IS) : Option IS :=
  match wantedA ops s.F o, o.op, s.p with
  | some true, .call c, none => match c.callee with
    | .value f => match opA s.F f with
      | some (.yld z) => if z = y then
        match opsA s.F c.args.toList with
        | some xs => match rounds xs s.H with
          | some (e, H') => match putA nt s.F o.dst (.bool (goesOn e)) with
            | some F' => some ⟨F', H', pendOf e⟩
            | none => none
          | none => none
        | none => none
        else none
      | _ => none
    | _ => none
  | _, _, _ => none
def exIOne (E : Env) (call : CallF) (rounds : RoundF) (nt y : Nat) (ops : Array Oper) (o : Oper) (s : IS) : Option IS :=
  match exOne E call nt ops o s.F s.H with
  | some s' => some ⟨s'.F, s'.H, s.p⟩
  | none => yieldX rounds nt y ops o s
def exIList (E : Env) (call : CallF) (rounds : RoundF) (nt y : Nat) (ops : Array Oper) : List Oper → IS → Option IS
  | [], s => some s
  | o :: l, s => match exIOne E call rounds nt y ops o s with
    | some s' => exIList E call rounds nt y ops l s'
    | none => none
def exIC (E : Env) (call : CallF) (rounds : RoundF) (nt y : Nat) : Nat → Code → IS → Option (Ext × IS)
  | 0, _, _ => none
  | n + 1, c, s => match c with
    | .skip => some (.normal, s)
    | .region _ ops draw => match draw with
      | true => match exReg E call nt ops true s.F s.H with
        | some s' => some (.normal, ⟨s'.F, s'.H, s.p⟩)
        | none => none
      | false => match exIList E call rounds nt y ops ops.toList s with
        | some s' => some (.normal, s')
        | none => none
    | .seq x z => match exIC E call rounds nt y n x s with
      | some (.normal, s') => exIC E call rounds nt y n z s'
      | r => r
    | .cond b x z => match opA s.F b with
      | some (.bool t) => match t with
        | true => exIC E call rounds nt y n x s
        | false => exIC E call rounds nt y n z s
      | _ => none
    | .block id x => match exIC E call rounds nt y n x s with
      | some (.exit j, s') => some (if j = id then .normal else .exit j, s')
      | r => r
    | .loop x => match exIC E call rounds nt y n x s with
      | some (.normal, s') => exIC E call rounds nt y n (.loop x) s'
      | r => r
    | .exit id => some (.exit id, s)
    | .scope x => exIC E call rounds nt y n x s
    | .label _ => some (.normal, s)
    | .ret => some (.ret, s)
    | _ => none
def putAllA (nt : Nat) : Fr → List Tmp → List AV → Option Fr
  | F, [], [] => some F
  | F, p :: ps, v :: vs => if p < nt then putAllA nt (F.set p v) ps vs else none
  | _, _, _ => none
def roundA (ex : Code → Fr → AH → Option (Ext × St)) (nt : Nat) (F : Fr) (ps : List Tmp) (assign body : Code) : RoundF := fun args H =>
  match putAllA nt F ps args with
  | some F1 => match ex assign F1 H with
    | some (.normal, s1) => match ex body s1.F s1.H with
      | some (e, s2) => some (e, s2.H)
      | none => none
    | _ => none
  | none => none
/-- What the function that is ranged over does, with such rounds. -/
def iterA (E : Env) (call : CallF) (rounds : RoundF) (n : Nat) (gf : FuncId) (cap : List AV) (H : AH) : Option (Ext × AH) :=
  match E.fn.get gf with
  | none => none
  | some i => if i.ntmps < cap.length + 1 then none else
    match exIC E call rounds i.ntmps H.n n i.body ⟨Tr.nil.put 0 (.yld H.n :: cap), ⟨H.n + 1, H.bs⟩, none⟩ with
    | some (.exit _, _) => none
    | some (_, s) => match resultsA E s.F s.H i.results with
      | some _ => match s.p with
        | none => some (.normal, s.H)
        | some .normal => none
        | some e => some (e, s.H)
      | none => none
    | none => none
def exC (E : Env) (call : CallF) (nt : Nat) : Nat → Code → Fr → AH → Option (Ext × St)
  | 0, _, _, _ => none
  | n + 1, c, F, H => match c with
    | .skip => some (.normal, ⟨F, H⟩)
    | .region _ ops draw => match exReg E call nt ops draw F H with
      | some s => some (.normal, s)
      | none => none
    | .seq x y => match exC E call nt n x F H with
      | some (.normal, s) => exC E call nt n y s.F s.H
      | r => r
    | .cond b x y => match opA F b with
      | some (.bool t) => match t with
        | true => exC E call nt n x F H
        | false => exC E call nt n y F H
      | _ => none
    | .block id x => match exC E call nt n x F H with
      | some (.exit j, s) => some (if j = id then .normal else .exit j, s)
      | r => r
    | .loop x => match exC E call nt n x F H with
      | some (.normal, s) => exC E call nt n (.loop x) s.F s.H
      | r => r
    | .exit id => some (.exit id, ⟨F, H⟩)
    | .scope x => exC E call nt n x F H
    | .label _ => some (.normal, ⟨F, H⟩)
    | .ret => some (.ret, ⟨F, H⟩)
    | .rangeFunc g ps assign body => match noRange assign && noRange body with
      | false => none
      | true => match opA F g with
        | some (.func gf [] cap) => match iterA E call (roundA (exC E call nt n) nt F ps.toList assign body) n gf cap H with
          | some (e, H') => some (e, ⟨F, H'⟩)
          | none => none
        | _ => none
    | _ => none
def oneOr : List AV → AV
  | [v] => v
  | l => .tup l
def exF (E : Env) (L : Nat) : Nat → CallF
  | 0 => fun _ _ _ => none
  | n + 1 => fun f args H =>
    match E.hook f args H with
    | some r => some r
    | none => match E.fn.get f with
      | none => none
      | some i =>
        if i.ntmps < args.length then none else
        match exC E (exF E L n) i.ntmps L i.body (Tr.nil.put 0 args) H with
        | some (.exit _, _) => none
        | some (_, s) => match resultsA E s.F s.H i.results with
          | some l => some (oneOr l, s.H)
          | none => none
        | none => none
end Go.Proofs.YtfcfliclmjikkaaGreatDoor.Ex
