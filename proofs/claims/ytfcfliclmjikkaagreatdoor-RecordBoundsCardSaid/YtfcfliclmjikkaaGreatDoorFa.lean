/- The plain runner's fast twin: what it is. -/
import Derived.Test.YtfcfliclmjikkaaGreatDoorExa
namespace Go.Proofs.YtfcfliclmjikkaaGreatDoor.Ex
open Go
set_option linter.unusedVariables false

abbrev NF := N8 (N8 (N8 AV))
abbrev Res := Option (Ext × AV × AH)
abbrev KV := AV → AH → Res
abbrev CallK := FuncId → List AV → AH → KV → Res
abbrev KN := NF → AH → Res
abbrev KA := AV → Res

/-! ### Slots -/
structure Dg (α : Type) where
  get : N8 α → (α → Res) → Res
  up : (α → (α → Res) → Res) → N8 α → (N8 α → Res) → Res
noncomputable def dg0 (α : Type) : Dg α := ⟨fun n => @N8.rec α (fun _ => (α → Res) → Res) (fun a0 a1 a2 a3 a4 a5 a6 a7 k => k a0) n, fun g n => @N8.rec α (fun _ => (α → (α → Res) → Res) → (N8 α → Res) → Res) (fun a0 a1 a2 a3 a4 a5 a6 a7 g k => g a0 fun y => k ⟨y, a1, a2, a3, a4, a5, a6, a7⟩) n g⟩
noncomputable def dg1 (α : Type) : Dg α := ⟨fun n => @N8.rec α (fun _ => (α → Res) → Res) (fun a0 a1 a2 a3 a4 a5 a6 a7 k => k a1) n, fun g n => @N8.rec α (fun _ => (α → (α → Res) → Res) → (N8 α → Res) → Res) (fun a0 a1 a2 a3 a4 a5 a6 a7 g k => g a1 fun y => k ⟨a0, y, a2, a3, a4, a5, a6, a7⟩) n g⟩
noncomputable def dg2 (α : Type) : Dg α := ⟨fun n => @N8.rec α (fun _ => (α → Res) → Res) (fun a0 a1 a2 a3 a4 a5 a6 a7 k => k a2) n, fun g n => @N8.rec α (fun _ => (α → (α → Res) → Res) → (N8 α → Res) → Res) (fun a0 a1 a2 a3 a4 a5 a6 a7 g k => g a2 fun y => k ⟨a0, a1, y, a3, a4, a5, a6, a7⟩) n g⟩
noncomputable def dg3 (α : Type) : Dg α := ⟨fun n => @N8.rec α (fun _ => (α → Res) → Res) (fun a0 a1 a2 a3 a4 a5 a6 a7 k => k a3) n, fun g n => @N8.rec α (fun _ => (α → (α → Res) → Res) → (N8 α → Res) → Res) (fun a0 a1 a2 a3 a4 a5 a6 a7 g k => g a3 fun y => k ⟨a0, a1, a2, y, a4, a5, a6, a7⟩) n g⟩
noncomputable def dg4 (α : Type) : Dg α := ⟨fun n => @N8.rec α (fun _ => (α → Res) → Res) (fun a0 a1 a2 a3 a4 a5 a6 a7 k => k a4) n, fun g n => @N8.rec α (fun _ => (α → (α → Res) → Res) → (N8 α → Res) → Res) (fun a0 a1 a2 a3 a4 a5 a6 a7 g k => g a4 fun y => k ⟨a0, a1, a2, a3, y, a5, a6, a7⟩) n g⟩
noncomputable def dg5 (α : Type) : Dg α := ⟨fun n => @N8.rec α (fun _ => (α → Res) → Res) (fun a0 a1 a2 a3 a4 a5 a6 a7 k => k a5) n, fun g n => @N8.rec α (fun _ => (α → (α → Res) → Res) → (N8 α → Res) → Res) (fun a0 a1 a2 a3 a4 a5 a6 a7 g k => g a5 fun y => k ⟨a0, a1, a2, a3, a4, y, a6, a7⟩) n g⟩
noncomputable def dg6 (α : Type) : Dg α := ⟨fun n => @N8.rec α (fun _ => (α → Res) → Res) (fun a0 a1 a2 a3 a4 a5 a6 a7 k => k a6) n, fun g n => @N8.rec α (fun _ => (α → (α → Res) → Res) → (N8 α → Res) → Res) (fun a0 a1 a2 a3 a4 a5 a6 a7 g k => g a6 fun y => k ⟨a0, a1, a2, a3, a4, a5, y, a7⟩) n g⟩
noncomputable def dg7 (α : Type) : Dg α := ⟨fun n => @N8.rec α (fun _ => (α → Res) → Res) (fun a0 a1 a2 a3 a4 a5 a6 a7 k => k a7) n, fun g n => @N8.rec α (fun _ => (α → (α → Res) → Res) → (N8 α → Res) → Res) (fun a0 a1 a2 a3 a4 a5 a6 a7 g k => g a7 fun y => k ⟨a0, a1, a2, a3, a4, a5, a6, y⟩) n g⟩
noncomputable def dig (α : Type) : Nat → Dg α
  | 0 => dg0 α
  | 1 => dg1 α
  | 2 => dg2 α
  | 3 => dg3 α
  | 4 => dg4 α
  | 5 => dg5 α
  | 6 => dg6 α
  | _ => dg7 α
structure Slot where
  get : NF → KA → Res
  set : AV → NF → (NF → Res) → Res
noncomputable def slotOf3 (d1 : Dg (N8 (N8 AV))) (d2 : Dg (N8 AV)) (d3 : Dg AV) : Slot :=
  @Dg.rec _ (fun _ => Slot) (fun g1 u1 => @Dg.rec _ (fun _ => Slot) (fun g2 u2 => @Dg.rec _ (fun _ => Slot) (fun g3 u3 => ⟨fun F k => g1 F fun x => g2 x fun y => g3 y k, fun v F k => u1 (fun b k => u2 (fun c k => u3 (fun _ k => k v) c k) b k) F k⟩) d3) d2) d1
noncomputable def slotOf (t : Nat) : Slot := slotOf3 (dig _ (t / 64 % 8)) (dig _ (t / 8 % 8)) (dig _ (t % 8))

/-! ### Compiled code -/
inductive COpd where
  | t (i : Nat)
  | c (v : AV)
inductive CO where
  | mv (x : COpd)
  | bin (op : BinOp) (t : TypeId) (x y : COpd)
  | pick (c a b : COpd)
  | lenS (x : COpd)
  | lenL (x : COpd)
  | load (t : TypeId) (agg : Bool) (size : Nat) (x : COpd)
  | store (size : Nat) (a x : COpd)
  | fa (q : Nat) (x : COpd)
  | ia (es : Nat) (x ix : COpd)
  | idx (x ix : COpd)
  | not (x : COpd)
  | call (f : FuncId) (args : List COpd)
  | callv (f : COpd) (args : List COpd)
  | ext (x : COpd) (j : Nat)
  | box (x : COpd)
  | new (z : List AV)
  | mkf (f : FuncId) (first cap : List COpd)
  | bsl (size : Nat) (z : List AV) (len : Nat) (js : List Nat) (ps : List COpd)
  | bst (fs : List (Nat × TypeId)) (z : List AV) (js : List Nat) (ps : List COpd)
  | convi (k : IntKind) (x : COpd)
  | conv (s d : TypeId) (x : COpd)
  | sl (t : TypeId) (x : COpd) (lo hi mx : Option COpd)
  | ifc (t : TypeId) (x : COpd)
  | nilc (x : COpd)
  | un (op : UnOp) (x : COpd)
  | app (t u : TypeId) (x y : COpd)
  | fld (q : Nat) (i : TI) (x : COpd)
  | dfr (x : COpd)
  | gen (o : Op) (rs : List Nat)
structure COp where
  g : Option (Nat × Bool)
  d : Option Nat
  o : CO
/-- What an operation is in a region whose order is open. -/
inductive DK where
  | plain
  | al
  | sp
  | ld (t : TypeId) (a : COpd) (d : Nat)
inductive CC where
  | skip
  | drawn (l : List (COp × DK))
  | reg (l : List COp)
  | seq (a b : CC)
  | cond (c : COpd) (a b : CC)
  | block (id : Nat) (a : CC)
  | loop (a : CC)
  | range (g : COpd) (ps : List Nat) (assign body : CC)
  | tail (a b c : COp) (x y : COpd)
  | exit (id : Nat)
  | ret
inductive CRes where
  | t (i : Nat)
  | cell (a : Nat) (t : TypeId)
structure CFn where
  nt : Nat
  body : CC
  res : List CRes

/-! ### Compiling -/
def fieldOfT (ty : Tr TI) (t : TypeId) (f : Nat) : Option (Nat × TI) :=
  match ty.get t with
  | some i => match i.kind with
    | .struct fs => match fs[f]? with
      | some (o, ft) => match ty.get ft with
        | some i => if i.size = 0 then none else some (o, i)
        | none => none
      | none => none
    | _ => none
  | none => none
def compOpd : Operand → Option COpd
  | .tmp t => bif Nat.blt t 512 then some (.t t) else none
  | .const v => (absC v).map .c
  | .global g => some (.c (.glob g))
  | .func f => some (.c (.func f [] []))
def compOpds : List Operand → Option (List COpd)
  | [] => some []
  | x :: l => match compOpd x, compOpds l with
    | some a, some r => some (a :: r)
    | _, _ => none
def genOf (o : Op) : Option CO := bif (readsOf o).all (Nat.blt · 512) then some (.gen o (readsOf o)) else none
def compOO : Option Operand → Option (Option COpd)
  | none => some none
  | some x => (compOpd x).map some
def isNilK : Operand → Bool
  | .const .nilIface => true
  | _ => false
def compO (ty : Tr TI) (o : Op) : Option CO :=
  match o with
  | .box _ x => (compOpd x).map .box
  | .alloc t => match ty.get t with
    | some i => match i.zero with
      | some z => bif z.all okc then some (.new z) else none
      | none => none
    | none => none
  | .makeFunc f first cap => match f with
    | .func f => match compOpds first.toList, compOpds cap.toList with
      | some a, some b => some (.mkf f a b)
      | _, _ => none
    | _ => none
  | .buildSlice t len ps => match ty.get t with
    | some i => match i.kind with
      | .slice e => match ty.get e with
        | some j => match j.zero, compOpds (ps.toList.map (·.2)) with
          | some z, some l => bif Nat.beq z.length j.size && Nat.ble (len * j.size) 16777216 then some (.bsl j.size z len (ps.toList.map (·.1)) l) else none
          | _, _ => none
        | none => none
      | _ => none
    | none => none
  | .build t ps => match ty.get t with
    | some i => match i.kind with
      | .struct fs => match i.zero, compOpds (ps.toList.map (·.2)) with
        | some z, some l => some (.bst fs z (ps.toList.map (·.1)) l)
        | _, _ => none
      | _ => genOf o
    | none => none
  | .convert s d x => match ty.get s, ty.get d, compOpd x with
    | some si, some di, some x => match di.kind with
      | .int k => some (.convi k x)
      | _ => some (.conv s d x)
    | _, _, _ => none
  | .slice t x lo hi mx => match compOpd x, compOO lo, compOO hi, compOO mx with
    | some x, some a, some b, some c => some (.sl t x a b c)
    | _, _, _, _ => none
  | .makeInterface t x => match ty.get t, compOpd x with
    | some i, some x => match i.kind with
      | .iface => none
      | _ => some (.ifc t x)
    | _, _ => none
  | .nilCheck x => (compOpd x).map .nilc
  | .field t x f => match fieldOfT ty t f, compOpd x with
    | some (q, i), some x => some (.fld q i x)
    | _, _ => none
  | .move x => (compOpd x).map .mv
  | .assign x => (compOpd x).map .mv
  | .pick c a b => match compOpd c, compOpd a, compOpd b with
    | some c, some a, some b => some (.pick c a b)
    | _, _, _ => none
  | .load t a => match ty.get t, compOpd a with
    | some i, some a => some (.load t i.kind.isAgg i.size a)
    | _, _ => none
  | .store t a x => match ty.get t, compOpd a, compOpd x with
    | some i, some a, some x => some (.store i.size a x)
    | _, _, _ => none
  | .binOp op t x y _ => match isNilK x || isNilK y with
    | true => genOf o
    | false => match compOpd x, compOpd y with
      | some x, some y => some (.bin op t x y)
      | _, _ => none
  | .unOp op _ x => match op with
    | .not => (compOpd x).map .not
    | op => (compOpd x).map (.un op)
  | .fieldAddr t x f => match fieldOfT ty t f, compOpd x with
    | some (q, _), some x => some (.fa q x)
    | _, _ => genOf o
  | .indexAddr t x ix => match ty.get t, compOpd x, compOpd ix with
    | some i, some x, some ix => match i.kind with
      | .slice e => match ty.get e with
        | some j => some (.ia j.size x ix)
        | none => genOf o
      | _ => genOf o
    | _, _, _ => genOf o
  | .index t x ix => match ty.get t, compOpd x, compOpd ix with
    | some i, some x, some ix => match i.kind with
      | .str => some (.idx x ix)
      | _ => genOf o
    | _, _, _ => genOf o
  | .extract x j => (compOpd x).map (.ext · j)
  | .call c => match c.callee with
    | .value f => match compOpd f, compOpds c.args.toList with
      | some (.c (.func f [] [])), some l => some (.call f l)
      | some (.t i), some l => some (.callv (.t i) l)
      | _, _ => genOf o
    | .builtin .len => match c.argTypes[0]?, compOpds c.args.toList with
      | some t, some [x] => match ty.get t with
        | some i => match i.kind with
          | .str => some (.lenS x)
          | .slice _ => some (.lenL x)
          | _ => none
        | none => none
      | _, _ => genOf o
    | .builtin .append => match c.argTypes.toList, compOpds c.args.toList with
      | [t, u], some [x, y] => some (.app t u x y)
      | _, _ => none
    | _ => genOf o
  | o => genOf o
def compG (ops : Array Oper) (o : Oper) : Option (Option (Nat × Bool)) :=
  match o.guard with
  | none => some none
  | some (j, want) => match ops[j]? with
    | some g => match g.dst with
      | some t => bif Nat.blt t 512 then some (some (t, want)) else none
      | none => none
    | none => none
def compOp (ty : Tr TI) (nt : Nat) (ops : Array Oper) (o : Oper) : Option COp :=
  match (match o.dst with
    | none => true
    | some d => Nat.blt d nt && Nat.blt d 512) with
  | false => none
  | true => match compG ops o, compO ty o.op with
    | some g, some c => some ⟨g, o.dst, c⟩
    | _, _ => none
def compD (o : Oper) : Option COp := match o.op, o.guard, o.dst with
  | .defer c, none, none => match c.callee, c.args.toList with
    | .value f, [] => (compOpd f).map fun x => ⟨none, none, .dfr x⟩
    | _, _ => none
  | _, _, _ => none
def compOps (ty : Tr TI) (nt : Nat) (ops : Array Oper) : List Oper → Option (List COp)
  | [] => some []
  | o :: l => match (match isDefer o.op with
      | true => compD o
      | false => compOp ty nt ops o), compOps ty nt ops l with
    | some c, some r => some (c :: r)
    | _, _ => none
def pickOps (ops : Array Oper) : List (Nat × Nat) → Option (List Oper)
  | [] => some []
  | (i, d) :: l => match d with
    | 0 => match ops[i]?, pickOps ops l with
      | some o, some r => some (o :: r)
      | _, _ => none
    | _ => none
def kindD (d : Nat) : OK → Option DK
  | .pure => some .plain
  | .spine => some .sp
  | .alloc => some .al
  | .load t a => match d with
    | 0 => some .plain
    | d => (compOpd a).map fun a => .ld t a d
def compDraw (ty : Tr TI) (nt : Nat) (ops : Array Oper) : List (Nat × Nat) → Option (List (COp × DK))
  | [] => some []
  | (i, d) :: l => match ops[i]? with
    | some o => match compOp ty nt ops o, kindD d (okOf ty o.op), compDraw ty nt ops l with
      | some c, some q, some r => some ((c, q) :: r)
      | _, _, _ => none
    | none => none
def compPre (ty : Tr TI) (nt : Nat) (ops : Array Oper) (L : List (Nat × Nat)) : Option CC :=
  match pickOps ops L with
  | some l => bif l.all fun o => !isDefer o.op then (compOps ty nt ops l).map .reg else none
  | none => (compDraw ty nt ops L).map .drawn
def addrC : Op → Option COpd
  | .store _ a _ => compOpd a
  | _ => none
def compTail (ty : Tr TI) (nt : Nat) (ops : Array Oper) (p q r : Oper) : Option CC :=
  match compOp ty nt ops p, compOp ty nt ops q, compOp ty nt ops r, addrC q.op, addrC r.op with
  | some a, some b, some c, some x, some y => some (.tail a b c x y)
  | _, _, _, _, _ => none
def compRegD (ty : Tr TI) (nt : Nat) (ops : Array Oper) : Option CC :=
  match planOf ty ops with
  | some L => compPre ty nt ops L
  | none => match cutOf ty ops with
    | some (L, p, q, r) => match compPre ty nt (ops.extract 0 (ops.size - 3)) L, compTail ty nt ops p q r with
      | some a, some t => some (.seq a t)
      | _, _ => none
    | none => none
def compC (ty : Tr TI) (nt : Nat) : Code → Option CC
  | .skip => some .skip
  | .region _ ops draw => match draw with
    | false => (compOps ty nt ops ops.toList).map .reg
    | true => compRegD ty nt ops
  | .seq a b => match compC ty nt a, compC ty nt b with
    | some a, some b => some (.seq a b)
    | _, _ => none
  | .cond c a b => match compOpd c, compC ty nt a, compC ty nt b with
    | some c, some a, some b => some (.cond c a b)
    | _, _, _ => none
  | .block id a => (compC ty nt a).map (.block id)
  | .loop a => (compC ty nt a).map .loop
  | .rangeFunc g ps a b => bif noRange a && noRange b && ps.toList.all (fun d => Nat.blt d 512 && Nat.blt d nt) then match compOpd g, compC ty nt a, compC ty nt b with
      | some g, some a, some b => some (.range g ps.toList a b)
      | _, _, _ => none
    else none
  | .exit id => some (.exit id)
  | .scope a => compC ty nt a
  | .label _ => some .skip
  | .ret => some .ret
  | _ => none
def compRes : List ResultVar → Option (List CRes)
  | [] => some []
  | .tmp t :: l => match compRes l with
    | some r => bif Nat.blt t 512 then some (.t t :: r) else none
    | none => none
  | .cell a t :: l => match compRes l with
    | some r => bif Nat.blt a 512 then some (.cell a t :: r) else none
    | none => none
def compFn (ty : Tr TI) (i : FI) : Option CFn :=
  bif Nat.ble i.ntmps 512 then match compC ty i.ntmps i.body, compRes i.results with
    | some b, some r => some ⟨i.ntmps, b, r⟩
    | _, _ => none
  else none

/-! ### Running -/
/-- A value's first constructor, looked at. -/
noncomputable def AV.ifInt : AV → (IntKind → Int → Res) → Res → Res :=
  @AV.rec (fun _ => (IntKind → Int → Res) → Res → Res) (fun _ => Unit) (fun k n y _ => y k n) (fun _ _ _ _ _ n => n) (fun _ _ n => n) (fun _ _ n => n) (fun _ _ _ n => n) (fun _ n => n) (fun _ _ _ _ _ _ n => n) (fun _ n => n) (fun _ _ _ _ _ _ n => n) (fun _ n => n) (fun _ _ _ _ n => n) (fun _ n => n) (fun _ _ _ n => n) (fun _ _ _ n => n) (fun _ _ n => n) (fun _ _ n => n) (fun _ _ n => n) () (fun _ _ _ _ => ())
noncomputable def AV.ifBool : AV → (Bool → Res) → Res → Res :=
  @AV.rec (fun _ => (Bool → Res) → Res → Res) (fun _ => Unit) (fun _ _ _ n => n) (fun _ _ _ _ _ n => n) (fun b y _ => y b) (fun _ _ n => n) (fun _ _ _ n => n) (fun _ n => n) (fun _ _ _ _ _ _ n => n) (fun _ n => n) (fun _ _ _ _ _ _ n => n) (fun _ n => n) (fun _ _ _ _ n => n) (fun _ n => n) (fun _ _ _ n => n) (fun _ _ _ n => n) (fun _ _ n => n) (fun _ _ n => n) (fun _ _ n => n) () (fun _ _ _ _ => ())
noncomputable def AV.ifStr : AV → (List UInt8 → Res) → Res → Res :=
  @AV.rec (fun _ => (List UInt8 → Res) → Res → Res) (fun _ => Unit) (fun _ _ _ n => n) (fun _ _ _ _ _ n => n) (fun _ _ n => n) (fun s y _ => y s) (fun _ _ _ n => n) (fun _ n => n) (fun _ _ _ _ _ _ n => n) (fun _ n => n) (fun _ _ _ _ _ _ n => n) (fun _ n => n) (fun _ _ _ _ n => n) (fun _ n => n) (fun _ _ _ n => n) (fun _ _ _ n => n) (fun _ _ n => n) (fun _ _ n => n) (fun _ _ n => n) () (fun _ _ _ _ => ())
noncomputable def AV.ifPtr : AV → (Nat → Nat → Res) → Res → Res :=
  @AV.rec (fun _ => (Nat → Nat → Res) → Res → Res) (fun _ => Unit) (fun _ _ _ n => n) (fun _ _ _ _ _ n => n) (fun _ _ n => n) (fun _ _ n => n) (fun b o y _ => y b o) (fun _ n => n) (fun _ _ _ _ _ _ n => n) (fun _ n => n) (fun _ _ _ _ _ _ n => n) (fun _ n => n) (fun _ _ _ _ n => n) (fun _ n => n) (fun _ _ _ n => n) (fun _ _ _ n => n) (fun _ _ n => n) (fun _ _ n => n) (fun _ _ n => n) () (fun _ _ _ _ => ())
noncomputable def AV.ifSl : AV → (Nat → Nat → Nat → Nat → Res) → Res → Res → Res :=
  @AV.rec (fun _ => (Nat → Nat → Nat → Nat → Res) → Res → Res → Res) (fun _ => Unit) (fun _ _ _ _ n => n) (fun _ _ _ _ _ _ n => n) (fun _ _ _ n => n) (fun _ _ _ n => n) (fun _ _ _ _ n => n) (fun _ _ n => n) (fun b o l e _ y _ _ => y b o l e) (fun _ z _ => z) (fun _ _ _ _ _ _ _ n => n) (fun _ _ n => n) (fun _ _ _ _ _ n => n) (fun _ _ n => n) (fun _ _ _ _ n => n) (fun _ _ _ _ n => n) (fun _ _ _ n => n) (fun _ _ _ n => n) (fun _ _ _ n => n) () (fun _ _ _ _ => ())
noncomputable def AV.ifTup : AV → (List AV → Res) → Res → Res :=
  @AV.rec (fun _ => (List AV → Res) → Res → Res) (fun _ => Unit) (fun _ _ _ n => n) (fun _ _ _ _ _ n => n) (fun _ _ n => n) (fun _ _ n => n) (fun _ _ _ n => n) (fun _ n => n) (fun _ _ _ _ _ _ n => n) (fun _ n => n) (fun _ _ _ _ _ _ n => n) (fun _ n => n) (fun _ _ _ _ n => n) (fun _ n => n) (fun _ _ _ n => n) (fun l _ y _ => y l) (fun _ _ n => n) (fun _ _ n => n) (fun _ _ n => n) () (fun _ _ _ _ => ())
noncomputable def AV.ifFunc : AV → (FuncId → List AV → List AV → Res) → Res → Res :=
  @AV.rec (fun _ => (FuncId → List AV → List AV → Res) → Res → Res) (fun _ => Unit) (fun _ _ _ n => n) (fun _ _ _ _ _ n => n) (fun _ _ n => n) (fun _ _ n => n) (fun _ _ _ n => n) (fun _ n => n) (fun _ _ _ _ _ _ n => n) (fun _ n => n) (fun f a b _ _ y _ => y f a b) (fun _ n => n) (fun _ _ _ _ n => n) (fun _ n => n) (fun _ _ _ n => n) (fun _ _ _ n => n) (fun _ _ n => n) (fun _ _ n => n) (fun _ _ n => n) () (fun _ _ _ _ => ())
/-- A number written out. -/
noncomputable def finN (n : Nat) (k : Nat → Res) : Res := @Nat.rec (fun _ => (Nat → Res) → Res) (fun k => k 0) (fun p _ k => k (Nat.succ p)) n k
noncomputable def optK {α : Type} (x : Option α) (k : α → Res) : Res := @Option.rec α (fun _ => (α → Res) → Res) (fun _ => none) (fun v k => k v) x k
noncomputable def boolK (b : Bool) (k : KA) : Res := @Bool.rec (fun _ => KA → Res) (fun k => k (.bool false)) (fun k => k (.bool true)) b k
noncomputable def iteK (b : Bool) (x y : Res) : Res := @Bool.rec (fun _ => Res) y x b

structure Rd where
  run : NF → KA → Res
noncomputable def rdOf : COpd → Rd
  | .t i => @Slot.rec (fun _ => Rd) (fun g _ => ⟨g⟩) (slotOf i)
  | .c v => ⟨fun _ k => k v⟩
structure Rds where
  run : NF → (List AV → Res) → Res
noncomputable def rdsOf : List COpd → Rds
  | [] => ⟨fun _ k => k []⟩
  | x :: l => @Rd.rec (fun _ => Rds) (fun g => @Rds.rec (fun _ => Rds) (fun gs => ⟨fun F k => g F fun v => gs F fun r => k (v :: r)⟩) (rdsOf l)) (rdOf x)
structure RdO where
  run : NF → (Option AV → Res) → Res
noncomputable def rdoOf : Option COpd → RdO
  | none => ⟨fun _ k => k none⟩
  | some x => @Rd.rec (fun _ => RdO) (fun g => ⟨fun F k => g F fun v => k (some v)⟩) (rdOf x)
structure Wr where
  run : AV → NF → (NF → Res) → Res
noncomputable def wrOf : Option Nat → Wr
  | none => ⟨fun _ F k => k F⟩
  | some t => @Slot.rec (fun _ => Wr) (fun _ s => ⟨s⟩) (slotOf t)

/-! #### Memory -/
structure TrC (α : Type) where
  get : Tr α → (α → Res) → Res
  set : α → Tr α → (Tr α → Res) → Res
noncomputable def trc0 (α : Type) (d0 : Dg (Option α)) : TrC α :=
  @Dg.rec _ (fun _ => TrC α) (fun g0 u0 => ⟨fun t k => @Tr.rec α (fun _ => (α → Res) → Res) (fun s0 s1 s2 s3 s4 rest k => g0 s0 fun x0 => optK x0 k) t k, fun x t k => @Tr.rec α (fun _ => α → (Tr α → Res) → Res) (fun s0 s1 s2 s3 s4 rest x k => u0 (fun _ kk => kk (some x)) s0 fun r => k ⟨r, s1, s2, s3, s4, rest⟩) t x k⟩) d0
noncomputable def trc1 (α : Type) (d0 : Dg (N8 (Option α))) (d1 : Dg (Option α)) : TrC α :=
  @Dg.rec _ (fun _ => TrC α) (fun g0 u0 => @Dg.rec _ (fun _ => TrC α) (fun g1 u1 => ⟨fun t k => @Tr.rec α (fun _ => (α → Res) → Res) (fun s0 s1 s2 s3 s4 rest k => g0 s1 fun x0 => g1 x0 fun x1 => optK x1 k) t k, fun x t k => @Tr.rec α (fun _ => α → (Tr α → Res) → Res) (fun s0 s1 s2 s3 s4 rest x k => u0 (fun y0 kk => u1 (fun _ kk => kk (some x)) y0 kk) s1 fun r => k ⟨s0, r, s2, s3, s4, rest⟩) t x k⟩) d1) d0
noncomputable def trc2 (α : Type) (d0 : Dg (N64 (Option α))) (d1 : Dg (N8 (Option α))) (d2 : Dg (Option α)) : TrC α :=
  @Dg.rec _ (fun _ => TrC α) (fun g0 u0 => @Dg.rec _ (fun _ => TrC α) (fun g1 u1 => @Dg.rec _ (fun _ => TrC α) (fun g2 u2 => ⟨fun t k => @Tr.rec α (fun _ => (α → Res) → Res) (fun s0 s1 s2 s3 s4 rest k => g0 s2 fun x0 => g1 x0 fun x1 => g2 x1 fun x2 => optK x2 k) t k, fun x t k => @Tr.rec α (fun _ => α → (Tr α → Res) → Res) (fun s0 s1 s2 s3 s4 rest x k => u0 (fun y0 kk => u1 (fun y1 kk => u2 (fun _ kk => kk (some x)) y1 kk) y0 kk) s2 fun r => k ⟨s0, s1, r, s3, s4, rest⟩) t x k⟩) d2) d1) d0
noncomputable def trc3 (α : Type) (d0 : Dg (N512 (Option α))) (d1 : Dg (N64 (Option α))) (d2 : Dg (N8 (Option α))) (d3 : Dg (Option α)) : TrC α :=
  @Dg.rec _ (fun _ => TrC α) (fun g0 u0 => @Dg.rec _ (fun _ => TrC α) (fun g1 u1 => @Dg.rec _ (fun _ => TrC α) (fun g2 u2 => @Dg.rec _ (fun _ => TrC α) (fun g3 u3 => ⟨fun t k => @Tr.rec α (fun _ => (α → Res) → Res) (fun s0 s1 s2 s3 s4 rest k => g0 s3 fun x0 => g1 x0 fun x1 => g2 x1 fun x2 => g3 x2 fun x3 => optK x3 k) t k, fun x t k => @Tr.rec α (fun _ => α → (Tr α → Res) → Res) (fun s0 s1 s2 s3 s4 rest x k => u0 (fun y0 kk => u1 (fun y1 kk => u2 (fun y2 kk => u3 (fun _ kk => kk (some x)) y2 kk) y1 kk) y0 kk) s3 fun r => k ⟨s0, s1, s2, r, s4, rest⟩) t x k⟩) d3) d2) d1) d0
noncomputable def trc4 (α : Type) (d0 : Dg (N4096 (Option α))) (d1 : Dg (N512 (Option α))) (d2 : Dg (N64 (Option α))) (d3 : Dg (N8 (Option α))) (d4 : Dg (Option α)) : TrC α :=
  @Dg.rec _ (fun _ => TrC α) (fun g0 u0 => @Dg.rec _ (fun _ => TrC α) (fun g1 u1 => @Dg.rec _ (fun _ => TrC α) (fun g2 u2 => @Dg.rec _ (fun _ => TrC α) (fun g3 u3 => @Dg.rec _ (fun _ => TrC α) (fun g4 u4 => ⟨fun t k => @Tr.rec α (fun _ => (α → Res) → Res) (fun s0 s1 s2 s3 s4 rest k => g0 s4 fun x0 => g1 x0 fun x1 => g2 x1 fun x2 => g3 x2 fun x3 => g4 x3 fun x4 => optK x4 k) t k, fun x t k => @Tr.rec α (fun _ => α → (Tr α → Res) → Res) (fun s0 s1 s2 s3 s4 rest x k => u0 (fun y0 kk => u1 (fun y1 kk => u2 (fun y2 kk => u3 (fun y3 kk => u4 (fun _ kk => kk (some x)) y3 kk) y2 kk) y1 kk) y0 kk) s4 fun r => k ⟨s0, s1, s2, s3, r, rest⟩) t x k⟩) d4) d3) d2) d1) d0
/-- A number written out, then a table's place. -/
noncomputable def canD {α : Type} (n : Nat) (k : Nat → TrC α) : TrC α := @Nat.rec (fun _ => (Nat → TrC α) → TrC α) (fun k => k 0) (fun p _ k => k (Nat.succ p)) n k
noncomputable def trl0 (α : Type) (i : Nat) : TrC α := trc0 α (dig _ i)
noncomputable def trl1 (α : Type) (i : Nat) : TrC α := canD (i / 8) fun a => canD (i % 8) fun b => trc1 α (dig _ a) (dig _ b)
noncomputable def trl2 (α : Type) (i : Nat) : TrC α := canD (i / 64) fun a => canD (i / 8 % 8) fun b => canD (i % 8) fun c => trc2 α (dig _ a) (dig _ b) (dig _ c)
noncomputable def trl3 (α : Type) (i : Nat) : TrC α := canD (i / 512) fun a => canD (i / 64 % 8) fun b => canD (i / 8 % 8) fun c => canD (i % 8) fun d => trc3 α (dig _ a) (dig _ b) (dig _ c) (dig _ d)
noncomputable def trl4 (α : Type) (i : Nat) : TrC α := canD (i / 4096) fun a => canD (i / 512 % 8) fun b => canD (i / 64 % 8) fun c => canD (i / 8 % 8) fun d => canD (i % 8) fun e => trc4 α (dig _ a) (dig _ b) (dig _ c) (dig _ d) (dig _ e)
noncomputable def trl5 (α : Type) (i : Nat) : TrC α := ⟨fun t k => optK (t.get i) k, fun x t k => k (t.set i x)⟩
noncomputable def trm4 (α : Type) (i : Nat) : TrC α := @Bool.rec (fun _ => TrC α) (trl5 α i) (trl4 α i) (Nat.ble i 32767)
noncomputable def trm3 (α : Type) (i : Nat) : TrC α := @Bool.rec (fun _ => TrC α) (trm4 α i) (trl3 α i) (Nat.ble i 4095)
noncomputable def trm2 (α : Type) (i : Nat) : TrC α := @Bool.rec (fun _ => TrC α) (trm3 α i) (trl2 α i) (Nat.ble i 511)
noncomputable def trm1 (α : Type) (i : Nat) : TrC α := @Bool.rec (fun _ => TrC α) (trm2 α i) (trl1 α i) (Nat.ble i 63)
noncomputable def trc (α : Type) (i : Nat) : TrC α := @Bool.rec (fun _ => TrC α) (trm1 α i) (trl0 α i) (Nat.ble i 7)
noncomputable def getK {α : Type} (t : Tr α) (i : Nat) (k : α → Res) : Res := (trc α i).get t k
noncomputable def setK {α : Type} (t : Tr α) (i : Nat) (x : α) (k : Tr α → Res) : Res := (trc α i).set x t k
noncomputable def takeK (n : Nat) : Nat → Tr AV → (List AV → Res) → Res :=
  @Nat.rec (fun _ => Nat → Tr AV → (List AV → Res) → Res) (fun _ _ k => k []) (fun _ ih o t k => getK t o fun v => finN (Nat.succ o) fun o => ih o t fun l => k (v :: l)) n
noncomputable def putK (l : List AV) : Nat → Tr AV → (Tr AV → Res) → Res :=
  @List.rec AV (fun _ => Nat → Tr AV → (Tr AV → Res) → Res) (fun _ t k => k t) (fun x _ ih o t k => setK t o x fun t => finN (Nat.succ o) fun o => ih o t k) l
noncomputable def loadK1 (E : Env) (t : TypeId) (p : AV) (H : AH) (k : KA) : Res :=
  p.ifPtr (fun b o => @AH.rec (fun _ => Res) (fun _ bs => getK bs b fun q => @Blk.rec (fun _ => Res) (fun len cs => iteK (Nat.blt o len) (getK cs o k) none) q) H) (optK (loadT E t p H) k)
noncomputable def loadKn (E : Env) (t : TypeId) (n : Nat) (p : AV) (H : AH) (k : KA) : Res :=
  p.ifPtr (fun b o => @AH.rec (fun _ => Res) (fun _ bs => getK bs b fun q => @Blk.rec (fun _ => Res) (fun len cs => iteK (Nat.ble (o + n) len) (takeK n o cs fun l => k (.agg l)) none) q) H) (optK (loadT E t p H) k)
noncomputable def isAggA : AV → Bool :=
  @AV.rec (fun _ => Bool) (fun _ => Unit) (fun _ _ => false) (fun _ _ _ _ => false) (fun _ => false) (fun _ => false) (fun _ _ => false) false (fun _ _ _ _ _ => false) false (fun _ _ _ _ _ => false) false (fun _ _ _ => false) false (fun _ _ => true) (fun _ _ => true) (fun _ => false) (fun _ => false) (fun _ => true) () (fun _ _ _ _ => ())
noncomputable def storeK (size : Nat) (p v : AV) (H : AH) (k : AH → Res) : Res :=
  p.ifPtr (fun b o => iteK (isAggA v) (iteK (Nat.beq v.cells.length size) (optK (storeA H b o v.cells) k) none)
    (iteK (Nat.beq size 1) (@AH.rec (fun _ => Res) (fun n bs => getK bs b fun q => @Blk.rec (fun _ => Res) (fun len cs => iteK (Nat.blt o len) (setK cs o v fun cs => setK bs b ⟨len, cs⟩ fun bs => k ⟨n, bs⟩) none) q) H) none)) none

/-! #### Numbers -/
noncomputable def capOf : IntKind → Nat := @IntKind.rec (fun _ => Nat) 127 32767 2147483647 9223372036854775807 255 65535 4294967295 18446744073709551615
noncomputable def kindNo : IntKind → Nat := @IntKind.rec (fun _ => Nat) 0 1 2 3 4 5 6 7
noncomputable def intCase (a b : Int) (k : Nat → Nat → Res) (no : Res) : Res :=
  @Int.rec (fun _ => Int → (Nat → Nat → Res) → Res → Res) (fun m b k no => @Int.rec (fun _ => Nat → (Nat → Nat → Res) → Res → Res) (fun n m k no => k m n) (fun _ _ _ no => no) b m k no) (fun _ _ _ no => no) a b k no
noncomputable def finI (k : IntKind) (n : Nat) (c : KA) (no : Res) : Res := iteK (Nat.ble n (capOf k)) (finN n fun n => c (.int k (.ofNat n))) no
structure IOp where
  run : IntKind → Nat → Nat → KA → Res → Res
noncomputable def iopOf : BinOp → IOp
  | .add => ⟨fun k m n c no => finI k (Nat.add m n) c no⟩
  | .sub => ⟨fun k m n c no => iteK (Nat.ble n m) (finI k (Nat.sub m n) c no) no⟩
  | .mul => ⟨fun k m n c no => finI k (Nat.mul m n) c no⟩
  | .eql => ⟨fun _ m n c _ => boolK (Nat.beq m n) c⟩
  | .neq => ⟨fun _ m n c _ => iteK (Nat.beq m n) (c (.bool false)) (c (.bool true))⟩
  | .lss => ⟨fun _ m n c _ => boolK (Nat.blt m n) c⟩
  | .leq => ⟨fun _ m n c _ => boolK (Nat.ble m n) c⟩
  | .gtr => ⟨fun _ m n c _ => boolK (Nat.blt n m) c⟩
  | .geq => ⟨fun _ m n c _ => boolK (Nat.ble n m) c⟩
  | _ => ⟨fun _ _ _ _ no => no⟩
/-- Two texts, held against one another. -/
noncomputable def eqS : List UInt8 → List UInt8 → Bool :=
  @List.rec UInt8 (fun _ => List UInt8 → Bool) (fun r => @List.rec UInt8 (fun _ => Bool) true (fun _ _ _ => false) r)
    (fun x _ ih r => @List.rec UInt8 (fun _ => Bool) false (fun y s _ => @Bool.rec (fun _ => Bool) false (ih s) (Nat.beq x.toNat y.toNat)) r)
noncomputable def catK : List UInt8 → List UInt8 → (List UInt8 → Res) → Res :=
  @List.rec UInt8 (fun _ => List UInt8 → (List UInt8 → Res) → Res) (fun r k => k r) (fun x _ ih r k => ih r fun l => k (x :: l))
noncomputable def nthS : List UInt8 → Nat → Option UInt8 :=
  @List.rec UInt8 (fun _ => Nat → Option UInt8) (fun _ => none) (fun x _ ih n => @Nat.rec (fun _ => Option UInt8) (some x) (fun m _ => ih m) n)
structure SOp where
  run : List UInt8 → List UInt8 → KA → Res → Res
noncomputable def sopOf : BinOp → SOp
  | .add => ⟨fun s t c no => iteK (Nat.ble (Nat.add s.length t.length) 1000000000) (catK s t fun l => c (.str l)) no⟩
  | .eql => ⟨fun s t c _ => boolK (eqS s t) c⟩
  | .neq => ⟨fun s t c _ => iteK (eqS s t) (c (.bool false)) (c (.bool true))⟩
  | _ => ⟨fun _ _ _ no => no⟩
noncomputable def binK (r : IntKind → Nat → Nat → KA → Res → Res) (q : List UInt8 → List UInt8 → KA → Res → Res) (x y : AV) (c : KA) (slow : Res) : Res :=
  x.ifInt (fun k a => y.ifInt (fun k' b => iteK (Nat.beq (kindNo k) (kindNo k')) (intCase a b (fun m n => r k m n c slow) slow) slow) slow)
    (x.ifStr (fun s => y.ifStr (fun t => q s t c slow) slow) slow)

/-! #### Operations -/
/-- A call's end, and how it goes on: what is called is a term of its own, so it is run once where it comes again. -/
noncomputable def memoK (x : Res) (k : KV) : Res := @Option.rec (Ext × AV × AH) (fun _ => KV → Res) (fun _ => none) (fun p k => @Prod.rec Ext (AV × AH) (fun _ => KV → Res) (fun _ q k => @Prod.rec AV AH (fun _ => KV → Res) (fun v H k => k v H) q k) p k) x k
def endK : KV := fun v H => some (.ret, v, H)
/-- The table, and who answers calls. -/
structure CE where
  E : Env
  call : CallK
structure Step where
  run : CE → NF → AH → KN → Res
noncomputable def miniF : List Nat → NF → Tr AV → (Tr AV → Res) → Res
  | [], _, t, k => k t
  | i :: l, F, t, k => @Slot.rec (fun _ => Res) (fun g _ => g F fun v => setK t i v fun t => miniF l F t k) (slotOf i)
noncomputable def finK (call : CallK) (w : AV → NF → (NF → Res) → Res) (F : NF) (r : R) (k : KN) : Res :=
  @R.rec (fun _ => Res) (fun v H => w v F fun F => k F H) (fun H => w (.tup []) F fun F => k F H) (fun f args H => memoK (call f args H endK) fun v H => w v F fun F => k F H) r
abbrev VStep := NF → AH → KA → Res
structure VClo where
  run : VStep
noncomputable def vStep (o : VStep) (w : AV → NF → (NF → Res) → Res) : Step := ⟨fun _ F H k => o F H fun v => w v F fun F => k F H⟩
noncomputable def rd1 (x : COpd) (f : (NF → KA → Res) → Step) : Step := @Rd.rec (fun _ => Step) f (rdOf x)
/-- A new block of such cells. -/
noncomputable def newK (len : Nat) (cells : Tr AV) (H : AH) (k : Nat → AH → Res) : Res :=
  @AH.rec (fun _ => (Nat → AH → Res) → Res) (fun n bs k => setK bs n ⟨len, cells⟩ fun bs => finN (Nat.succ n) fun m => k n ⟨m, bs⟩) H k
noncomputable def newL (l : List AV) (H : AH) (k : Nat → AH → Res) : Res :=
  iteK (l.all okc) (finN l.length fun len => putK l 0 .nil fun t => newK len t H k) none
noncomputable def pairs : List Nat → List AV → List (Nat × AV)
  | j :: js, v :: vs => (j, v) :: pairs js vs
  | _, _ => []
def nilcB : AV → Bool
  | .ptr _ _ => true
  | .func _ _ _ => true
  | .iface _ _ => true
  | .glob _ => true
  | _ => false
def isOneL : List AV → List AV → Bool
  | [], [_] => true
  | _, _ => false
noncomputable def semO (w : AV → NF → (NF → Res) → Res) : CO → Step
  | .mv x => rd1 x fun g => ⟨fun _ F H k => g F fun v => w v F fun F => k F H⟩
  | .bin op t x y => rd1 x fun g => rd1 y fun h => @IOp.rec (fun _ => Step) (fun r => @SOp.rec (fun _ => Step) (fun q => ⟨fun c F H k => g F fun a => h F fun b => binK r q a b (fun v => w v F fun F => k F H) (optK (binA c.E op t a b) fun v => w v F fun F => k F H)⟩) (sopOf op)) (iopOf op)
  | .pick c a b => rd1 c fun gc => rd1 a fun ga => rd1 b fun gb => ⟨fun _ F H k => gc F fun v => v.ifBool (fun t => @Bool.rec (fun _ => Res) (gb F fun v => w v F fun F => k F H) (ga F fun v => w v F fun F => k F H) t) none⟩
  | .lenS x => rd1 x fun g => ⟨fun _ F H k => g F fun v => v.ifStr (fun s => finN s.length fun n => w (.int .i64 (.ofNat n)) F fun F => k F H) none⟩
  | .lenL x => rd1 x fun g => ⟨fun _ F H k => g F fun v => v.ifSl (fun _ _ n _ => w (.int .i64 (.ofNat n)) F fun F => k F H) (w (.int .i64 (.ofNat 0)) F fun F => k F H) none⟩
  | .load t agg n x => rd1 x fun g => @Bool.rec (fun _ => Step) ⟨fun c F H k => g F fun p => loadK1 c.E t p H fun v => w v F fun F => k F H⟩ ⟨fun c F H k => g F fun p => loadKn c.E t n p H fun v => w v F fun F => k F H⟩ agg
  | .store n a x => rd1 a fun g => rd1 x fun h => ⟨fun _ F H k => g F fun p => h F fun v => storeK n p v H fun H => w (.tup []) F fun F => k F H⟩
  | .fa q x => rd1 x fun g => ⟨fun _ F H k => g F fun p => p.ifPtr (fun b o => finN (Nat.add o q) fun o => w (.ptr b o) F fun F => k F H) none⟩
  | .ia es x ix => rd1 x fun g => rd1 ix fun h => ⟨fun _ F H k => g F fun a => h F fun i => a.ifSl (fun b o len e => i.ifInt (fun _ n => @Int.rec (fun _ => Res) (fun n => iteK (Nat.blt n len) (iteK (Nat.beq es e) (finN (Nat.add o (Nat.mul n e)) fun o => w (.ptr b o) F fun F => k F H) none) none) (fun _ => none) n) none) none none⟩
  | .idx x ix => rd1 x fun g => rd1 ix fun h => ⟨fun c F H k => g F fun a => h F fun i => a.ifStr (fun s => i.ifInt (fun _ n => @Int.rec (fun _ => Res) (fun n => optK (nthS s n) fun c => finN c.toNat fun n => w (.int .u8 (.ofNat n)) F fun F => k F H) (fun _ => none) n) none) none⟩
  | .not x => rd1 x fun g => ⟨fun _ F H k => g F fun v => v.ifBool (fun t => @Bool.rec (fun _ => Res) (w (.bool true) F fun F => k F H) (w (.bool false) F fun F => k F H) t) none⟩
  | .call f l => @Rds.rec (fun _ => Step) (fun gs => ⟨fun c F H k => gs F fun as => memoK (c.call f as H endK) fun v H => w v F fun F => k F H⟩) (rdsOf l)
  | .callv x l => rd1 x fun g => @Rds.rec (fun _ => Step) (fun gs => ⟨fun c F H k => g F fun fv => gs F fun as => fv.ifFunc (fun f a b => memoK (c.call f (a ++ as ++ b) H endK) fun v H => w v F fun F => k F H) none⟩) (rdsOf l)
  | .ext x j => rd1 x fun g => ⟨fun _ F H k => g F fun v => v.ifTup (fun l => optK (l[j]?) fun v => w v F fun F => k F H) none⟩
  | .box x => rd1 x fun g => ⟨fun _ F H k => g F fun v => iteK (isAggA v) (newL v.cells H fun n H => w (.ptr n 0) F fun F => k F H) (setK .nil 0 v fun t => newK 1 t H fun n H => w (.ptr n 0) F fun F => k F H)⟩
  | .new z => ⟨fun _ F H k => newK z.length (Tr.nil.put 0 z) H fun n H => w (.ptr n 0) F fun F => k F H⟩
  | .mkf f a b => @Rds.rec (fun _ => Step) (fun ga => @Rds.rec (fun _ => Step) (fun gb => ⟨fun _ F H k => ga F fun a => gb F fun b => w (.func f a b) F fun F => k F H⟩) (rdsOf b)) (rdsOf a)
  | .bsl size z len js ps => @Rds.rec (fun _ => Step) (fun gs => ⟨fun _ F H k => gs F fun vs => optK (placeS size (pairs js vs)) fun l => optK (fillA (replA z len) l) fun cs => newL cs H fun n H => w (.slice n 0 len size true) F fun F => k F H⟩) (rdsOf ps)
  | .bst fs z js ps => @Rds.rec (fun _ => Step) (fun gs => ⟨fun c F H k => gs F fun vs => optK (placeA c.E fs (pairs js vs)) fun l => optK (fillA z l) fun cs => w (.agg cs) F fun F => k F H⟩) (rdsOf ps)
  | .convi kk x => rd1 x fun g => ⟨fun c F H k => g F fun v => v.ifInt (fun _ n => @Int.rec (fun _ => Res) (fun n => iteK (Nat.ble n (capOf kk)) (w (.int kk (.ofNat n)) F fun F => k F H) (optK (convI c.E kk v H) fun r => finK (fun _ _ _ _ => none) w F r k)) (fun _ => optK (convI c.E kk v H) fun r => finK (fun _ _ _ _ => none) w F r k) n) (optK (convI c.E kk v H) fun r => finK (fun _ _ _ _ => none) w F r k)⟩
  | .conv s d x => rd1 x fun g => ⟨fun c F H k => g F fun v => optK (convA c.E s d v H) fun r => finK (fun _ _ _ _ => none) w F r k⟩
  | .sl t x lo hi mx => rd1 x fun g => @RdO.rec (fun _ => Step) (fun gl => @RdO.rec (fun _ => Step) (fun gh => @RdO.rec (fun _ => Step) (fun gm => ⟨fun c F H k => g F fun a => gl F fun l => gh F fun h => gm F fun m => optK (sliceA c.E t a l h m) fun v => w v F fun F => k F H⟩) (rdoOf mx)) (rdoOf hi)) (rdoOf lo)
  | .ifc t x => rd1 x fun g => ⟨fun _ F H k => g F fun v => w (.iface t v) F fun F => k F H⟩
  | .nilc x => rd1 x fun g => ⟨fun _ F H k => g F fun v => iteK (nilcB v) (w v F fun F => k F H) none⟩
  | .un op x => rd1 x fun g => ⟨fun c F H k => g F fun v => optK (unA c.E op v) fun v => w v F fun F => k F H⟩
  | .app t u x y => rd1 x fun g => rd1 y fun h => ⟨fun c F H k => g F fun a => h F fun b => optK (appendA c.E t u a b H) fun r => finK (fun _ _ _ _ => none) w F r k⟩
  | .fld q i x => rd1 x fun g => ⟨fun _ F H k => g F fun v => optK (match v with | .agg cs => partA i cs q | _ => none) fun v => w v F fun F => k F H⟩
  | .dfr x => rd1 x fun g => ⟨fun c F H k => g F fun v => v.ifFunc (fun f a b => iteK (isOneL a b) (iteK (c.E.quiet f) (k F H) none) none) none⟩
  | .gen o rs => ⟨fun c F H k => miniF rs F .nil fun G => optK (exOp c.E G o H) fun r => finK c.call w F r k⟩
noncomputable def guardS (g : NF → KA → Res) (w : AV → NF → (NF → Res) → Res) (s : CE → NF → AH → KN → Res) (want : Bool) : Step :=
  @Bool.rec (fun _ => Step)
    ⟨fun call F H k => g F fun v => v.ifBool (fun b => iteK b (w (.tup []) F fun F => k F H) (s call F H k)) (v.ifTup (fun _ => w (.tup []) F fun F => k F H) none)⟩
    ⟨fun call F H k => g F fun v => v.ifBool (fun b => iteK b (s call F H k) (w (.tup []) F fun F => k F H)) (v.ifTup (fun _ => w (.tup []) F fun F => k F H) none)⟩ want
noncomputable def semOp (c : COp) : Step :=
  @COp.rec (fun _ => Step) (fun g d o => @Wr.rec (fun _ => Step) (fun w => @Step.rec (fun _ => Step) (fun s =>
    @Option.rec (Nat × Bool) (fun _ => Step) ⟨s⟩ (fun p => @Prod.rec Nat Bool (fun _ => Step) (fun t want => @Slot.rec (fun _ => Step) (fun g _ => guardS g w s want) (slotOf t)) p) g) (semO w o)) (wrOf d)) c
noncomputable def semOps : List COp → Step
  | [] => ⟨fun _ F H k => k F H⟩
  | o :: l => @Step.rec (fun _ => Step) (fun s => @Step.rec (fun _ => Step) (fun r => ⟨fun call F H k => s call F H fun F H => r call F H k⟩) (semOps l)) (semOp o)

/-! #### Code -/
def directF (call : CallK) : CallF := fun f args H => match call f args H fun v H => some (.ret, v, H) with
  | some (_, v, H) => some (v, H)
  | none => none
structure DStep where
  run : CE → NF → AH → List AH → Tr Blk → KN → Res
structure GClo where
  run : NF → (Bool → Res) → Res
noncomputable def gclo : Option (Nat × Bool) → GClo
  | none => ⟨fun _ k => k true⟩
  | some (t, w) => @Slot.rec (fun _ => GClo) (fun g _ => ⟨fun F k => g F fun v => v.ifBool (fun b => k (b == w)) (v.ifTup (fun _ => k false) none)⟩) (slotOf t)
def iniK (b : Bool) (H H' : AH) (ini : Tr Blk) : Tr Blk := match b with
  | true => match H'.bs.get H.n with
    | some k => ini.set H.n k
    | none => ini
  | false => ini
def sameB (b : Bool) (E : Env) (t : TypeId) (p : AV) (H : AH) (d : Nat) (past : List AH) (ini : Tr Blk) : Bool := match b with
  | false => true
  | true => match loadT E t p H with
    | some v => wasSo E t p v ini (past.tail.take d)
    | none => false
noncomputable def semD1 (s : CE → NF → AH → KN → Res) (r : CE → NF → AH → List AH → Tr Blk → KN → Res) (gd : Option (Nat × Bool)) : DK → DStep
  | .plain => ⟨fun e F H past ini k => s e F H fun F H => r e F H past ini k⟩
  | .sp => ⟨fun e F H past ini k => s e F H fun F H => r e F H (H :: past) ini k⟩
  | .al => @GClo.rec (fun _ => DStep) (fun g => ⟨fun e F H past ini k => g F fun b => s e F H fun F H' => r e F H' past (iniK b H H' ini) k⟩) (gclo gd)
  | .ld t a d => @GClo.rec (fun _ => DStep) (fun g => @Rd.rec (fun _ => DStep) (fun h => ⟨fun e F H past ini k => g F fun b => h F fun p => iteK (sameB b e.E t p H d past ini) (s e F H fun F H => r e F H past ini k) none⟩) (rdOf a)) (gclo gd)
noncomputable def semD : List (COp × DK) → DStep
  | [] => ⟨fun _ F H _ _ k => k F H⟩
  | x :: l => @Prod.rec COp DK (fun _ => DStep) (fun c q => @Step.rec (fun _ => DStep) (fun s => @DStep.rec (fun _ => DStep) (fun r => semD1 s r c.g q) (semD l)) (semOp c)) x
noncomputable def putsK : List Nat → List AV → NF → (NF → Res) → Res
  | [], [], F, k => k F
  | d :: l, v :: r, F, k => @Slot.rec (fun _ => Res) (fun _ s => s v F fun F => putsK l r F k) (slotOf d)
  | _, _, _, _ => none
abbrev KE := Nat → NF → AH → Res
structure CSem where
  run : CE → Nat → NF → AH → KN → KE → KN → Res
noncomputable def roundK (a b : CE → Nat → NF → AH → KN → KE → KN → Res) (ps : List Nat) (call : CE) (L : Nat) (F : NF) : RoundF := fun args H =>
  match putsK ps args F fun F1 => a call L F1 H (fun F2 H2 => b call L F2 H2 (fun _ H => some (.normal, .tup [], H)) (fun j _ H => some (.exit j, .tup [], H)) (fun _ H => some (.ret, .tup [], H))) (fun _ _ _ => none) (fun _ _ => none) with
  | some (e, _, H) => some (e, H)
  | none => none
noncomputable def outK (r : Option (Ext × AH)) (F : NF) (kn : KN) (ke : KE) (kr : KN) : Res :=
  optK r fun p => @Prod.rec Ext AH (fun _ => Res) (fun e H => @Ext.rec (fun _ => Res) (kn F H) (fun j => ke j F H) (kr F H) e) p
noncomputable def semC (nt : Nat) : CC → CSem
  | .skip => ⟨fun _ _ F H kn _ _ => kn F H⟩
  | .reg l => @Step.rec (fun _ => CSem) (fun s => ⟨fun call _ F H kn _ _ => s call F H kn⟩) (semOps l)
  | .drawn l => @DStep.rec (fun _ => CSem) (fun s => ⟨fun call _ F H kn _ _ => s call F H [H] .nil kn⟩) (semD l)
  | .seq a b => @CSem.rec (fun _ => CSem) (fun x => @CSem.rec (fun _ => CSem) (fun y => ⟨fun call L F H kn ke kr => x call L F H (fun F H => y call L F H kn ke kr) ke kr⟩) (semC nt b)) (semC nt a)
  | .cond c a b => @Rd.rec (fun _ => CSem) (fun g => @CSem.rec (fun _ => CSem) (fun x => @CSem.rec (fun _ => CSem) (fun y => ⟨fun call L F H kn ke kr => g F fun v => v.ifBool (fun t => iteK t (x call L F H kn ke kr) (y call L F H kn ke kr)) none⟩) (semC nt b)) (semC nt a)) (rdOf c)
  | .block id a => @CSem.rec (fun _ => CSem) (fun x => ⟨fun call L F H kn ke kr => x call L F H kn (fun j F H => iteK (Nat.beq j id) (kn F H) (ke j F H)) kr⟩) (semC nt a)
  | .loop a => @CSem.rec (fun _ => CSem) (fun x => ⟨fun call L F H _ ke kr => @Nat.rec (fun _ => NF → AH → Res) (fun _ _ => none) (fun _ ih F H => x call L F H ih ke kr) L F H⟩) (semC nt a)
  | .range g ps a b => @Rd.rec (fun _ => CSem) (fun g => @CSem.rec (fun _ => CSem) (fun x => @CSem.rec (fun _ => CSem) (fun y => ⟨fun call L F H kn ke kr => g F fun v => v.ifFunc (fun gf first cap => @List.rec AV (fun _ => Res) (outK (iterA call.E (directF call.call) (roundK x y ps call L F) L gf cap H) F kn ke kr) (fun _ _ _ => none) first) none⟩) (semC nt b)) (semC nt a)) (rdOf g)
  | .tail a b c x y => @Step.rec (fun _ => CSem) (fun sa => @Step.rec (fun _ => CSem) (fun sb => @Step.rec (fun _ => CSem) (fun sc => @Rd.rec (fun _ => CSem) (fun gx => @Rd.rec (fun _ => CSem) (fun gy => ⟨fun call _ F H kn _ _ => sa call F H fun F1 H1 => gx F1 fun px => gy F1 fun py => px.ifPtr (fun i _ => py.ifPtr (fun j _ => iteK (Nat.beq i j) none (sb call F1 H1 fun F2 H2 => sc call F2 H2 kn)) none) none⟩) (rdOf y)) (rdOf x)) (semOp c)) (semOp b)) (semOp a)
  | .exit id => ⟨fun _ _ F H _ ke _ => ke id F H⟩
  | .ret => ⟨fun _ _ F H _ _ kr => kr F H⟩
def e1 : N8 AV := ⟨.tup [], .tup [], .tup [], .tup [], .tup [], .tup [], .tup [], .tup []⟩
def e2 : N8 (N8 AV) := ⟨e1, e1, e1, e1, e1, e1, e1, e1⟩
def e3 : NF := ⟨e2, e2, e2, e2, e2, e2, e2, e2⟩
structure RSem where
  run : CE → NF → AH → (List AV → Res) → Res
noncomputable def resOf : List CRes → RSem
  | [] => ⟨fun _ _ _ k => k []⟩
  | .t i :: l => @Slot.rec (fun _ => RSem) (fun g _ => @RSem.rec (fun _ => RSem) (fun r => ⟨fun c F H k => g F fun v => r c F H fun l => k (v :: l)⟩) (resOf l)) (slotOf i)
  | .cell a t :: l => @Slot.rec (fun _ => RSem) (fun g _ => @RSem.rec (fun _ => RSem) (fun r => ⟨fun c F H k => g F fun p => p.ifPtr (fun b o => optK (loadT c.E t (.ptr b o) H) fun v => r c F H fun l => k (v :: l)) none⟩) (resOf l)) (slotOf a)
noncomputable def oneK (l : List AV) (k : KA) : Res := @List.rec AV (fun _ => Res) (k (.tup [])) (fun v r _ => @List.rec AV (fun _ => Res) (k v) (fun w s _ => k (.tup (v :: w :: s))) r) l
structure FnSem where
  run : CE → Nat → List AV → AH → KV → Res
noncomputable def enterK (l : List AV) : Nat → NF → (NF → Res) → Res :=
  @List.rec AV (fun _ => Nat → NF → (NF → Res) → Res) (fun _ F k => k F) (fun x _ ih i F k => @Slot.rec (fun _ => Res) (fun _ s => s x F fun F => ih (Nat.succ i) F k) (slotOf i)) l
noncomputable def semFn (c : CFn) : FnSem :=
  @CFn.rec (fun _ => FnSem) (fun nt body res => @CSem.rec (fun _ => FnSem) (fun b => @RSem.rec (fun _ => FnSem) (fun r => ⟨fun call L args H k =>
    iteK (Nat.ble args.length nt) (enterK args 0 e3 fun F => b call L F H (fun F H => r call F H fun l => oneK l fun v => k v H) (fun _ _ _ => none) (fun F H => r call F H fun l => oneK l fun v => k v H)) none⟩) (resOf res)) (semC nt body)) c
noncomputable def hookK (f : FuncId) : FnSem := ⟨fun c _ args H k => optK (c.E.hook f args H) fun p => k p.1 p.2⟩
noncomputable def fnOf (ty : Tr TI) (fn : Tr FI) (f : FuncId) : FnSem := @Option.rec FI (fun _ => FnSem) (hookK f) (fun i => @Option.rec CFn (fun _ => FnSem) ⟨fun _ _ _ _ _ => none⟩ (fun c => semFn c) (compFn ty i)) (fn.get f)
noncomputable def fastF (ty : Tr TI) (fn : Tr FI) (E : Env) (L : Nat) : Nat → CallK := @Nat.rec (fun _ => CallK) (fun _ _ _ _ => none) (fun _ ih f args H k => (fnOf ty fn f).run ⟨E, ih⟩ L args H k)
/-- What the fast twin says of a law. -/
noncomputable def fastB (ty : Tr TI) (fn : Tr FI) (E : Env) (L n : Nat) (f : FuncId) (args : List AV) : Bool := match fastF ty fn E L n f args ⟨0, .nil⟩ (fun v H => some (.ret, v, H)) with
  | some (_, .bool b, _) => b
  | _ => false
end Go.Proofs.YtfcfliclmjikkaaGreatDoor.Ex
