/- The plain runner's fast twin: what it is. -/
import Derived.Test.YteopodohghnokaaGreatDoorXa
import Derived.Test.YteopodohghnokaaGreatDoorXe
section
namespace Go.Proofs.YteopodohghnokaaGreatDoor.Ex
open Go
set_option linter.unusedVariables false

abbrev NF := N8 (N8 (N8 AV))
abbrev Res := Option (Ext × AV × AH)
abbrev KV := AV → AH → Res
abbrev CallK := FuncId → List AV → AH → KV → Res
abbrev KN := NF → AH → Res
abbrev KA := AV → Res

/-! ### Slots -/
structure Dg (α : Type) where
  get : N8 α → (α → Res) → Res
  up : (α → (α → Res) → Res) → N8 α → (N8 α → Res) → Res
noncomputable def dg0 (α : Type) : Dg α := ⟨fun n => @N8.rec α (fun _ => (α → Res) → Res) (fun a0 a1 a2 a3 a4 a5 a6 a7 k => k a0) n, fun g n => @N8.rec α (fun _ => (α → (α → Res) → Res) → (N8 α → Res) → Res) (fun a0 a1 a2 a3 a4 a5 a6 a7 g k => g a0 fun y => k ⟨y, a1, a2, a3, a4, a5, a6, a7⟩) n g⟩
noncomputable def dg1 (α : Type) : Dg α := ⟨fun n => @N8.rec α (fun _ => (α → Res) → Res) (fun a0 a1 a2 a3 a4 a5 a6 a7 k => k a1) n, fun g n => @N8.rec α (fun _ => (α → (α → Res) → Res) → (N8 α → Res) → Res) (fun a0 a1 a2 a3 a4 a5 a6 a7 g k => g a1 fun y => k ⟨a0, y, a2, a3, a4, a5, a6, a7⟩) n g⟩
noncomputable def dg2 (α : Type) : Dg α := ⟨fun n => @N8.rec α (fun _ => (α → Res) → Res) (fun a0 a1 a2 a3 a4 a5 a6 a7 k => k a2) n, fun g n => @N8.rec α (fun _ => (α → (α → Res) → Res) → (N8 α → Res) → Res) (fun a0 a1 a2 a3 a4 a5 a6 a7 g k => g a2 fun y => k ⟨a0, a1, y, a3, a4, a5, a6, a7⟩) n g⟩
noncomputable def dg3 (α : Type) : Dg α := ⟨fun n => @N8.rec α (fun _ => (α → Res) → Res) (fun a0 a1 a2 a3 a4 a5 a6 a7 k => k a3) n, fun g n => @N8.rec α (fun _ => (α → (α → Res) → Res) → (N8 α → Res) → Res) (fun a0 a1 a2 a3 a4 a5 a6 a7 g k => g a3 fun y => k ⟨a0, a1, a2, y, a4, a5, a6, a7⟩) n g⟩
noncomputable def dg4 (α : Type) : Dg α := ⟨fun n => @N8.rec α (fun _ => (α → Res) → Res) (fun a0 a1 a2 a3 a4 a5 a6 a7 k => k a4) n, fun g n => @N8.rec α (fun _ => (α → (α → Res) → Res) → (N8 α → Res) → Res) (fun a0 a1 a2 a3 a4 a5 a6 a7 g k => g a4 fun y => k ⟨a0, a1, a2, a3, y, a5, a6, a7⟩) n g⟩
noncomputable def dg5 (α : Type) : Dg α := ⟨fun n => @N8.rec α (fun _ => (α → Res) → Res) (fun a0 a1 a2 a3 a4 a5 a6 a7 k => k a5) n, fun g n => @N8.rec α (fun _ => (α → (α → Res) → Res) → (N8 α → Res) → Res) (fun a0 a1 a2 a3 a4 a5 a6 a7 g k => g a5 fun y => k ⟨a0, a1, a2, a3, a4, y, a6, a7⟩) n g⟩
noncomputable def dg6 (α : Type) : Dg α := ⟨fun n => @N8.rec α (fun _ => (α → Res) → Res) (fun a0 a1 a2 a3 a4 a5 a6 a7 k => k a6) n, fun g n => @N8.rec α (fun _ => (α → (α → Res) → Res) → (N8 α → Res) → Res) (fun a0 a1 a2 a3 a4 a5 a6 a7 g k => g a6 fun y => k ⟨a0, a1, a2, a3, a4, a5, y, a7⟩) n g⟩
noncomputable def dg7 (α : Type) : Dg α := ⟨fun n => @N8.rec α (fun _ => (α → Res) → Res) (fun a0 a1 a2 a3 a4 a5 a6 a7 k => k a7) n, fun g n => @N8.rec α (fun _ => (α → (α → Res) → Res) → (N8 α → Res) → Res) (fun a0 a1 a2 a3 a4 a5 a6 a7 g k => g a7 fun y => k ⟨a0, a1, a2, a3, a4, a5, a6, y⟩) n g⟩
noncomputable def dig (α : Type) : Nat → Dg α
  | 0 => dg0 α
  | 1 => dg1 α
  | 2 => dg2 α
  | 3 => dg3 α
  | 4 => dg4 α
  | 5 => dg5 α
  | 6 => dg6 α
  | _ => dg7 α
structure Slot where
  get : NF → KA → Res
  set : AV → NF → (NF → Res) → Res
noncomputable def slotOf3 (d1 : Dg (N8 (N8 AV))) (d2 : Dg (N8 AV)) (d3 : Dg AV) : Slot :=
  @Dg.rec _ (fun _ => Slot) (fun g1 u1 => @Dg.rec _ (fun _ => Slot) (fun g2 u2 => @Dg.rec _ (fun _ => Slot) (fun g3 u3 => ⟨fun F k => g1 F fun x => g2 x fun y => g3 y k, fun v F k => u1 (fun b k => u2 (fun c k => u3 (fun _ k => k v) c k) b k) F k⟩) d3) d2) d1
noncomputable def slotOf (t : Nat) : Slot := slotOf3 (dig _ (t / 64 % 8)) (dig _ (t / 8 % 8)) (dig _ (t % 8))

/-! ### Compiled code -/
inductive COpd where
  | t (i : Nat)
  | c (v : AV)
inductive CO where
  | mv (x : COpd)
  | bin (op : BinOp) (t : TypeId) (x y : COpd)
  | pick (c a b : COpd)
  | lenS (x : COpd)
  | lenL (x : COpd)
  | load (t : TypeId) (agg : Bool) (size : Nat) (x : COpd)
  | store (size : Nat) (a x : COpd)
  | fa (q : Nat) (x : COpd)
  | ia (es : Nat) (x ix : COpd)
  | idx (x ix : COpd)
  | not (x : COpd)
  | call (f : FuncId) (args : List COpd)
  | callv (f : COpd) (args : List COpd)
  | ext (x : COpd) (j : Nat)
  | box (x : COpd)
  | new (z : List AV)
  | mkf (f : FuncId) (first cap : List COpd)
  | bsl (size : Nat) (z : List AV) (len : Nat) (js : List Nat) (ps : List COpd)
  | bst (fs : List (Nat × TypeId)) (z : List AV) (js : List Nat) (ps : List COpd)
  | convi (k : IntKind) (x : COpd)
  | conv (s d : TypeId) (x : COpd)
  | sl (t : TypeId) (x : COpd) (lo hi mx : Option COpd)
  | ifc (t : TypeId) (x : COpd)
  | nilc (x : COpd)
  | un (op : UnOp) (x : COpd)
  | app (t u : TypeId) (x y : COpd)
  | fld (q : Nat) (i : TI) (x : COpd)
  | dfr (x : COpd)
  | gen (o : Op) (rs : List Nat)
structure COp where
  g : Option (Nat × Bool)
  d : Option Nat
  o : CO
/-- What an operation is in a region whose order is open. -/
inductive DK where
  | plain
  | al
  | sp
  | ld (t : TypeId) (a : COpd) (d : Nat)
inductive CC where
  | skip
  | drawn (l : List (COp × DK))
  | reg (l : List COp)
  | seq (a b : CC)
  | cond (c : COpd) (a b : CC)
  | block (id : Nat) (a : CC)
  | loop (a : CC)
  | range (g : COpd) (ps : List Nat) (assign body : CC)
  | tail (a b c : COp) (x y : COpd)
  | exit (id : Nat)
  | ret
inductive CRes where
  | t (i : Nat)
  | cell (a : Nat) (t : TypeId)
structure CFn where
  nt : Nat
  body : CC
  res : List CRes

/-! ### Compiling -/
def fieldOfT (ty : Tr TI) (t : TypeId) (f : Nat) : Option (Nat × TI) :=
  match ty.get t with
  | some i => match i.kind with
    | .struct fs => match fs[f]? with
      | some (o, ft) => match ty.get ft with
        | some i => if i.size = 0 then none else some (o, i)
        | none => none
      | none => none
    | _ => none
  | none => none
def compOpd : Operand → Option COpd
  | .tmp t => bif Nat.blt t 512 then some (.t t) else none
  | .const v => (absC v).map .c
  | .global g => some (.c (.glob g))
  | .func f => some (.c (.func f [] []))
def compOpds : List Operand → Option (List COpd)
  | [] => some []
  | x :: l => match compOpd x, compOpds l with
    | some a, some r => some (a :: r)
    | _, _ => none
def genOf (o : Op) : Option CO := bif (readsOf o).all (Nat.blt · 512) then some (.gen o (readsOf o)) else none
def compOO : Option Operand → Option (Option COpd)
  | none => some none
  | some x => (compOpd x).map some
def isNilK : Operand → Bool
  | .const .nilIface => true
  | _ => false
def compO (ty : Tr TI) (o : Op) : Option CO :=
  match o with
  | .box _ x => (compOpd x).map .box
  | .alloc t => match ty.get t with
    | some i => match i.zero with
      | some z => bif z.all okc then some (.new z) else none
      | none => none
    | none => none
  | .makeFunc f first cap => match f with
    | .func f => match compOpds first.toList, compOpds cap.toList with
      | some a, some b => some (.mkf f a b)
      | _, _ => none
    | _ => none
  | .buildSlice t len ps => match ty.get t with
    | some i => match i.kind with
      | .slice e => match ty.get e with
        | some j => match j.zero, compOpds (ps.toList.map (·.2)) with
          | some z, some l => bif Nat.beq z.length j.size && Nat.ble (len * j.size) 16777216 then some (.bsl j.size z len (ps.toList.map (·.1)) l) else none
          | _, _ => none
        | none => none
      | _ => none
    | none => none
  | .build t ps => match ty.get t with
    | some i => match i.kind with
      | .struct fs => match i.zero, compOpds (ps.toList.map (·.2)) with
        | some z, some l => some (.bst fs z (ps.toList.map (·.1)) l)
        | _, _ => none
      | _ => genOf o
    | none => none
  | .convert s d x => match ty.get s, ty.get d, compOpd x with
    | some si, some di, some x => match di.kind with
      | .int k => some (.convi k x)
      | _ => some (.conv s d x)
    | _, _, _ => none
  | .slice t x lo hi mx => match compOpd x, compOO lo, compOO hi, compOO mx with
    | some x, some a, some b, some c => some (.sl t x a b c)
    | _, _, _, _ => none
  | .makeInterface t x => match ty.get t, compOpd x with
    | some i, some x => match i.kind with
      | .iface => none
      | _ => some (.ifc t x)
    | _, _ => none
  | .nilCheck x => (compOpd x).map .nilc
  | .field t x f => match fieldOfT ty t f, compOpd x with
    | some (q, i), some x => some (.fld q i x)
    | _, _ => none
  | .move x => (compOpd x).map .mv
  | .assign x => (compOpd x).map .mv
  | .pick c a b => match compOpd c, compOpd a, compOpd b with
    | some c, some a, some b => some (.pick c a b)
    | _, _, _ => none
  | .load t a => match ty.get t, compOpd a with
    | some i, some a => some (.load t i.kind.isAgg i.size a)
    | _, _ => none
  | .store t a x => match ty.get t, compOpd a, compOpd x with
    | some i, some a, some x => some (.store i.size a x)
    | _, _, _ => none
  | .binOp op t x y _ => match isNilK x || isNilK y with
    | true => genOf o
    | false => match compOpd x, compOpd y with
      | some x, some y => some (.bin op t x y)
      | _, _ => none
  | .unOp op _ x => match op with
    | .not => (compOpd x).map .not
    | op => (compOpd x).map (.un op)
  | .fieldAddr t x f => match fieldOfT ty t f, compOpd x with
    | some (q, _), some x => some (.fa q x)
    | _, _ => genOf o
  | .indexAddr t x ix => match ty.get t, compOpd x, compOpd ix with
    | some i, some x, some ix => match i.kind with
      | .slice e => match ty.get e with
        | some j => some (.ia j.size x ix)
        | none => genOf o
      | _ => genOf o
    | _, _, _ => genOf o
  | .index t x ix => match ty.get t, compOpd x, compOpd ix with
    | some i, some x, some ix => match i.kind with
      | .str => some (.idx x ix)
      | _ => genOf o
    | _, _, _ => genOf o
  | .extract x j => (compOpd x).map (.ext · j)
  | .call c => match c.callee with
    | .value f => match compOpd f, compOpds c.args.toList with
      | some (.c (.func f [] [])), some l => some (.call f l)
      | some (.t i), some l => some (.callv (.t i) l)
      | _, _ => genOf o
    | .builtin .len => match c.argTypes[0]?, compOpds c.args.toList with
      | some t, some [x] => match ty.get t with
        | some i => match i.kind with
          | .str => some (.lenS x)
          | .slice _ => some (.lenL x)
          | _ => none
        | none => none
      | _, _ => genOf o
    | .builtin .append => match c.argTypes.toList, compOpds c.args.toList with
      | [t, u], some [x, y] => some (.app t u x y)
      | _, _ => none
    | _ => genOf o
  | o => genOf o
def compG (ops : Array Oper) (o : Oper) : Option (Option (Nat × Bool)) :=
  match o.guard with
  | none => some none
  | some (j, want) => match ops[j]? with
    | some g => match g.dst with
      | some t => bif Nat.blt t 512 then some (some (t, want)) else none
      | none => none
    | none => none
def compOp (ty : Tr TI) (nt : Nat) (ops : Array Oper) (o : Oper) : Option COp :=
  match (match o.dst with
    | none => true
    | some d => Nat.blt d nt && Nat.blt d 512) with
  | false => none
  | true => match compG ops o, compO ty o.op with
    | some g, some c => some ⟨g, o.dst, c⟩
    | _, _ => none
def compD (o : Oper) : Option COp := match o.op, o.guard, o.dst with
  | .defer c, none, none => match c.callee, c.args.toList with
    | .value f, [] => (compOpd f).map fun x => ⟨none, none, .dfr x⟩
    | _, _ => none
  | _, _, _ => none
def compOps (ty : Tr TI) (nt : Nat) (ops : Array Oper) : List Oper → Option (List COp)
  | [] => some []
  | o :: l => match (match isDefer o.op with
      | true => compD o
      | false => compOp ty nt ops o), compOps ty nt ops l with
    | some c, some r => some (c :: r)
    | _, _ => none
def pickOps (ops : Array Oper) : List (Nat × Nat) → Option (List Oper)
  | [] => some []
  | (i, d) :: l => match d with
    | 0 => match ops[i]?, pickOps ops l with
      | some o, some r => some (o :: r)
      | _, _ => none
    | _ => none
def kindD (d : Nat) : OK → Option DK
  | .pure => some .plain
  | .spine => some .sp
  | .alloc => some .al
  | .load t a => match d with
    | 0 => some .plain
    | d => (compOpd a).map fun a => .ld t a d
def compDraw (ty : Tr TI) (nt : Nat) (ops : Array Oper) : List (Nat × Nat) → Option (List (COp × DK))
  | [] => some []
  | (i, d) :: l => match ops[i]? with
    | some o => match compOp ty nt ops o, kindD d (okOf ty o.op), compDraw ty nt ops l with
      | some c, some q, some r => some ((c, q) :: r)
      | _, _, _ => none
    | none => none
def compPre (ty : Tr TI) (nt : Nat) (ops : Array Oper) (L : List (Nat × Nat)) : Option CC :=
  match pickOps ops L with
  | some l => bif l.all fun o => !isDefer o.op then (compOps ty nt ops l).map .reg else none
  | none => (compDraw ty nt ops L).map .drawn
def addrC : Op → Option COpd
  | .store _ a _ => compOpd a
  | _ => none
def compTail (ty : Tr TI) (nt : Nat) (ops : Array Oper) (p q r : Oper) : Option CC :=
  match compOp ty nt ops p, compOp ty nt ops q, compOp ty nt ops r, addrC q.op, addrC r.op with
  | some a, some b, some c, some x, some y => some (.tail a b c x y)
  | _, _, _, _, _ => none
def compRegD (ty : Tr TI) (nt : Nat) (ops : Array Oper) : Option CC :=
  match planOf ty ops with
  | some L => compPre ty nt ops L
  | none => match cutOf ty ops with
    | some (L, p, q, r) => match compPre ty nt (ops.extract 0 (ops.size - 3)) L, compTail ty nt ops p q r with
      | some a, some t => some (.seq a t)
      | _, _ => none
    | none => none
def compC (ty : Tr TI) (nt : Nat) : Code → Option CC
  | .skip => some .skip
  | .region _ ops draw => match draw with
    | false => (compOps ty nt ops ops.toList).map .reg
    | true => compRegD ty nt ops
  | .seq a b => match compC ty nt a, compC ty nt b with
    | some a, some b => some (.seq a b)
    | _, _ => none
  | .cond c a b => match compOpd c, compC ty nt a, compC ty nt b with
    | some c, some a, some b => some (.cond c a b)
    | _, _, _ => none
  | .block id a => (compC ty nt a).map (.block id)
  | .loop a => (compC ty nt a).map .loop
  | .rangeFunc g ps a b => bif noRange a && noRange b && ps.toList.all (fun d => Nat.blt d 512 && Nat.blt d nt) then match compOpd g, compC ty nt a, compC ty nt b with
      | some g, some a, some b => some (.range g ps.toList a b)
      | _, _, _ => none
    else none
  | .exit id => some (.exit id)
  | .scope a => compC ty nt a
  | .label _ => some .skip
  | .ret => some .ret
  | _ => none
def compRes : List ResultVar → Option (List CRes)
  | [] => some []
  | .tmp t :: l => match compRes l with
    | some r => bif Nat.blt t 512 then some (.t t :: r) else none
    | none => none
  | .cell a t :: l => match compRes l with
    | some r => bif Nat.blt a 512 then some (.cell a t :: r) else none
    | none => none
def compFn (ty : Tr TI) (i : FI) : Option CFn :=
  bif Nat.ble i.ntmps 512 then match compC ty i.ntmps i.body, compRes i.results with
    | some b, some r => some ⟨i.ntmps, b, r⟩
    | _, _ => none
  else none

/-! ### Running -/
/-- A value's first constructor, looked at. -/
noncomputable def AV.ifInt : AV → (IntKind → Int → Res) → Res → Res :=
  @AV.rec (fun _ => (IntKind → Int → Res) → Res → Res) (fun _ => Unit) (fun k n y _ => y k n) (fun _ _ _ _ _ n => n) (fun _ _ n => n) (fun _ _ n => n) (fun _ _ _ n => n) (fun _ n => n) (fun _ _ _ _ _ _ n => n) (fun _ n => n) (fun _ _ _ _ _ _ n => n) (fun _ n => n) (fun _ _ _ _ n => n) (fun _ n => n) (fun _ _ _ n => n) (fun _ _ _ n => n) (fun _ _ n => n) (fun _ _ n => n) (fun _ _ n => n) () (fun _ _ _ _ => ())
noncomputable def AV.ifBool : AV → (Bool → Res) → Res → Res :=
  @AV.rec (fun _ => (Bool → Res) → Res → Res) (fun _ => Unit) (fun _ _ _ n => n) (fun _ _ _ _ _ n => n) (fun b y _ => y b) (fun _ _ n => n) (fun _ _ _ n => n) (fun _ n => n) (fun _ _ _ _ _ _ n => n) (fun _ n => n) (fun _ _ _ _ _ _ n => n) (fun _ n => n) (fun _ _ _ _ n => n) (fun _ n => n) (fun _ _ _ n => n) (fun _ _ _ n => n) (fun _ _ n => n) (fun _ _ n => n) (fun _ _ n => n) () (fun _ _ _ _ => ())
noncomputable def AV.ifStr : AV → (List UInt8 → Res) → Res → Res :=
  @AV.rec (fun _ => (List UInt8 → Res) → Res → Res) (fun _ => Unit) (fun _ _ _ n => n) (fun _ _ _ _ _ n => n) (fun _ _ n => n) (fun s y _ => y s) (fun _ _ _ n => n) (fun _ n => n) (fun _ _ _ _ _ _ n => n) (fun _ n => n) (fun _ _ _ _ _ _ n => n) (fun _ n => n) (fun _ _ _ _ n => n) (fun _ n => n) (fun _ _ _ n => n) (fun _ _ _ n => n) (fun _ _ n => n) (fun _ _ n => n) (fun _ _ n => n) () (fun _ _ _ _ => ())
noncomputable def AV.ifPtr : AV → (Nat → Nat → Res) → Res → Res :=
  @AV.rec (fun _ => (Nat → Nat → Res) → Res → Res) (fun _ => Unit) (fun _ _ _ n => n) (fun _ _ _ _ _ n => n) (fun _ _ n => n) (fun _ _ n => n) (fun b o y _ => y b o) (fun _ n => n) (fun _ _ _ _ _ _ n => n) (fun _ n => n) (fun _ _ _ _ _ _ n => n) (fun _ n => n) (fun _ _ _ _ n => n) (fun _ n => n) (fun _ _ _ n => n) (fun _ _ _ n => n) (fun _ _ n => n) (fun _ _ n => n) (fun _ _ n => n) () (fun _ _ _ _ => ())
noncomputable def AV.ifSl : AV → (Nat → Nat → Nat → Nat → Res) → Res → Res → Res :=
  @AV.rec (fun _ => (Nat → Nat → Nat → Nat → Res) → Res → Res → Res) (fun _ => Unit) (fun _ _ _ _ n => n) (fun _ _ _ _ _ _ n => n) (fun _ _ _ n => n) (fun _ _ _ n => n) (fun _ _ _ _ n => n) (fun _ _ n => n) (fun b o l e _ y _ _ => y b o l e) (fun _ z _ => z) (fun _ _ _ _ _ _ _ n => n) (fun _ _ n => n) (fun _ _ _ _ _ n => n) (fun _ _ n => n) (fun _ _ _ _ n => n) (fun _ _ _ _ n => n) (fun _ _ _ n => n) (fun _ _ _ n => n) (fun _ _ _ n => n) () (fun _ _ _ _ => ())
noncomputable def AV.ifTup : AV → (List AV → Res) → Res → Res :=
  @AV.rec (fun _ => (List AV → Res) → Res → Res) (fun _ => Unit) (fun _ _ _ n => n) (fun _ _ _ _ _ n => n) (fun _ _ n => n) (fun _ _ n => n) (fun _ _ _ n => n) (fun _ n => n) (fun _ _ _ _ _ _ n => n) (fun _ n => n) (fun _ _ _ _ _ _ n => n) (fun _ n => n) (fun _ _ _ _ n => n) (fun _ n => n) (fun _ _ _ n => n) (fun l _ y _ => y l) (fun _ _ n => n) (fun _ _ n => n) (fun _ _ n => n) () (fun _ _ _ _ => ())
noncomputable def AV.ifFunc : AV → (FuncId → List AV → List AV → Res) → Res → Res :=
  @AV.rec (fun _ => (FuncId → List AV → List AV → Res) → Res → Res) (fun _ => Unit) (fun _ _ _ n => n) (fun _ _ _ _ _ n => n) (fun _ _ n => n) (fun _ _ n => n) (fun _ _ _ n => n) (fun _ n => n) (fun _ _ _ _ _ _ n => n) (fun _ n => n) (fun f a b _ _ y _ => y f a b) (fun _ n => n) (fun _ _ _ _ n => n) (fun _ n => n) (fun _ _ _ n => n) (fun _ _ _ n => n) (fun _ _ n => n) (fun _ _ n => n) (fun _ _ n => n) () (fun _ _ _ _ => ())
/-- A number written out. -/
noncomputable def finN (n : Nat) (k : Nat → Res) : Res := @Nat.rec (fun _ => (Nat → Res) → Res) (fun k => k 0) (fun p _ k => k (Nat.succ p)) n k
noncomputable def optK {α : Type} (x : Option α) (k : α → Res) : Res := @Option.rec α (fun _ => (α → Res) → Res) (fun _ => none) (fun v k => k v) x k
noncomputable def boolK (b : Bool) (k : KA) : Res := @Bool.rec (fun _ => KA → Res) (fun k => k (.bool false)) (fun k => k (.bool true)) b k
noncomputable def iteK (b : Bool) (x y : Res) : Res := @Bool.rec (fun _ => Res) y x b

structure Rd where
  run : NF → KA → Res
noncomputable def rdOf : COpd → Rd
  | .t i => @Slot.rec (fun _ => Rd) (fun g _ => ⟨g⟩) (slotOf i)
  | .c v => ⟨fun _ k => k v⟩
structure Rds where
  run : NF → (List AV → Res) → Res
noncomputable def rdsOf : List COpd → Rds
  | [] => ⟨fun _ k => k []⟩
  | x :: l => @Rd.rec (fun _ => Rds) (fun g => @Rds.rec (fun _ => Rds) (fun gs => ⟨fun F k => g F fun v => gs F fun r => k (v :: r)⟩) (rdsOf l)) (rdOf x)
structure RdO where
  run : NF → (Option AV → Res) → Res
noncomputable def rdoOf : Option COpd → RdO
  | none => ⟨fun _ k => k none⟩
  | some x => @Rd.rec (fun _ => RdO) (fun g => ⟨fun F k => g F fun v => k (some v)⟩) (rdOf x)
structure Wr where
  run : AV → NF → (NF → Res) → Res
noncomputable def wrOf : Option Nat → Wr
  | none => ⟨fun _ F k => k F⟩
  | some t => @Slot.rec (fun _ => Wr) (fun _ s => ⟨s⟩) (slotOf t)

/-! #### Memory -/
structure TrC (α : Type) where
  get : Tr α → (α → Res) → Res
  set : α → Tr α → (Tr α → Res) → Res
noncomputable def trc0 (α : Type) (d0 : Dg (Option α)) : TrC α :=
  @Dg.rec _ (fun _ => TrC α) (fun g0 u0 => ⟨fun t k => @Tr.rec α (fun _ => (α → Res) → Res) (fun s0 s1 s2 s3 s4 rest k => g0 s0 fun x0 => optK x0 k) t k, fun x t k => @Tr.rec α (fun _ => α → (Tr α → Res) → Res) (fun s0 s1 s2 s3 s4 rest x k => u0 (fun _ kk => kk (some x)) s0 fun r => k ⟨r, s1, s2, s3, s4, rest⟩) t x k⟩) d0
noncomputable def trc1 (α : Type) (d0 : Dg (N8 (Option α))) (d1 : Dg (Option α)) : TrC α :=
  @Dg.rec _ (fun _ => TrC α) (fun g0 u0 => @Dg.rec _ (fun _ => TrC α) (fun g1 u1 => ⟨fun t k => @Tr.rec α (fun _ => (α → Res) → Res) (fun s0 s1 s2 s3 s4 rest k => g0 s1 fun x0 => g1 x0 fun x1 => optK x1 k) t k, fun x t k => @Tr.rec α (fun _ => α → (Tr α → Res) → Res) (fun s0 s1 s2 s3 s4 rest x k => u0 (fun y0 kk => u1 (fun _ kk => kk (some x)) y0 kk) s1 fun r => k ⟨s0, r, s2, s3, s4, rest⟩) t x k⟩) d1) d0
noncomputable def trc2 (α : Type) (d0 : Dg (N64 (Option α))) (d1 : Dg (N8 (Option α))) (d2 : Dg (Option α)) : TrC α :=
  @Dg.rec _ (fun _ => TrC α) (fun g0 u0 => @Dg.rec _ (fun _ => TrC α) (fun g1 u1 => @Dg.rec _ (fun _ => TrC α) (fun g2 u2 => ⟨fun t k => @Tr.rec α (fun _ => (α → Res) → Res) (fun s0 s1 s2 s3 s4 rest k => g0 s2 fun x0 => g1 x0 fun x1 => g2 x1 fun x2 => optK x2 k) t k, fun x t k => @Tr.rec α (fun _ => α → (Tr α → Res) → Res) (fun s0 s1 s2 s3 s4 rest x k => u0 (fun y0 kk => u1 (fun y1 kk => u2 (fun _ kk => kk (some x)) y1 kk) y0 kk) s2 fun r => k ⟨s0, s1, r, s3, s4, rest⟩) t x k⟩) d2) d1) d0
noncomputable def trc3 (α : Type) (d0 : Dg (N512 (Option α))) (d1 : Dg (N64 (Option α))) (d2 : Dg (N8 (Option α))) (d3 : Dg (Option α)) : TrC α :=
  @Dg.rec _ (fun _ => TrC α) (fun g0 u0 => @Dg.rec _ (fun _ => TrC α) (fun g1 u1 => @Dg.rec _ (fun _ => TrC α) (fun g2 u2 => @Dg.rec _ (fun _ => TrC α) (fun g3 u3 => ⟨fun t k => @Tr.rec α (fun _ => (α → Res) → Res) (fun s0 s1 s2 s3 s4 rest k => g0 s3 fun x0 => g1 x0 fun x1 => g2 x1 fun x2 => g3 x2 fun x3 => optK x3 k) t k, fun x t k => @Tr.rec α (fun _ => α → (Tr α → Res) → Res) (fun s0 s1 s2 s3 s4 rest x k => u0 (fun y0 kk => u1 (fun y1 kk => u2 (fun y2 kk => u3 (fun _ kk => kk (some x)) y2 kk) y1 kk) y0 kk) s3 fun r => k ⟨s0, s1, s2, r, s4, rest⟩) t x k⟩) d3) d2) d1) d0
noncomputable def trc4 (α : Type) (d0 : Dg (N4096 (Option α))) (d1 : Dg (N512 (Option α))) (d2 : Dg (N64 (Option α))) (d3 : Dg (N8 (Option α))) (d4 : Dg (Option α)) : TrC α :=
  @Dg.rec _ (fun _ => TrC α) (fun g0 u0 => @Dg.rec _ (fun _ => TrC α) (fun g1 u1 => @Dg.rec _ (fun _ => TrC α) (fun g2 u2 => @Dg.rec _ (fun _ => TrC α) (fun g3 u3 => @Dg.rec _ (fun _ => TrC α) (fun g4 u4 => ⟨fun t k => @Tr.rec α (fun _ => (α → Res) → Res) (fun s0 s1 s2 s3 s4 rest k => g0 s4 fun x0 => g1 x0 fun x1 => g2 x1 fun x2 => g3 x2 fun x3 => g4 x3 fun x4 => optK x4 k) t k, fun x t k => @Tr.rec α (fun _ => α → (Tr α → Res) → Res) (fun s0 s1 s2 s3 s4 rest x k => u0 (fun y0 kk => u1 (fun y1 kk => u2 (fun y2 kk => u3 (fun y3 kk => u4 (fun _ kk => kk (some x)) y3 kk) y2 kk) y1 kk) y0 kk) s4 fun r => k ⟨s0, s1, s2, s3, r, rest⟩) t x k⟩) d4) d3) d2) d1) d0
/-- A number written out, then a table's place. -/
noncomputable def canD {α : Type} (n : Nat) (k : Nat → TrC α) : TrC α := @Nat.rec (fun _ => (Nat → TrC α) → TrC α) (fun k => k 0) (fun p _ k => k (Nat.succ p)) n k
noncomputable def trl0 (α : Type) (i : Nat) : TrC α := trc0 α (dig _ i)
noncomputable def trl1 (α : Type) (i : Nat) : TrC α := canD (i / 8) fun a => canD (i % 8) fun b => trc1 α (dig _ a) (dig _ b)
noncomputable def trl2 (α : Type) (i : Nat) : TrC α := canD (i / 64) fun a => canD (i / 8 % 8) fun b => canD (i % 8) fun c => trc2 α (dig _ a) (dig _ b) (dig _ c)
noncomputable def trl3 (α : Type) (i : Nat) : TrC α := canD (i / 512) fun a => canD (i / 64 % 8) fun b => canD (i / 8 % 8) fun c => canD (i % 8) fun d => trc3 α (dig _ a) (dig _ b) (dig _ c) (dig _ d)
noncomputable def trl4 (α : Type) (i : Nat) : TrC α := canD (i / 4096) fun a => canD (i / 512 % 8) fun b => canD (i / 64 % 8) fun c => canD (i / 8 % 8) fun d => canD (i % 8) fun e => trc4 α (dig _ a) (dig _ b) (dig _ c) (dig _ d) (dig _ e)
noncomputable def trl5 (α : Type) (i : Nat) : TrC α := ⟨fun t k => optK (t.get i) k, fun x t k => k (t.set i x)⟩
noncomputable def trm4 (α : Type) (i : Nat) : TrC α := @Bool.rec (fun _ => TrC α) (trl5 α i) (trl4 α i) (Nat.ble i 32767)
noncomputable def trm3 (α : Type) (i : Nat) : TrC α := @Bool.rec (fun _ => TrC α) (trm4 α i) (trl3 α i) (Nat.ble i 4095)
noncomputable def trm2 (α : Type) (i : Nat) : TrC α := @Bool.rec (fun _ => TrC α) (trm3 α i) (trl2 α i) (Nat.ble i 511)
noncomputable def trm1 (α : Type) (i : Nat) : TrC α := @Bool.rec (fun _ => TrC α) (trm2 α i) (trl1 α i) (Nat.ble i 63)
noncomputable def trc (α : Type) (i : Nat) : TrC α := @Bool.rec (fun _ => TrC α) (trm1 α i) (trl0 α i) (Nat.ble i 7)
noncomputable def getK {α : Type} (t : Tr α) (i : Nat) (k : α → Res) : Res := (trc α i).get t k
noncomputable def setK {α : Type} (t : Tr α) (i : Nat) (x : α) (k : Tr α → Res) : Res := (trc α i).set x t k
noncomputable def takeK (n : Nat) : Nat → Tr AV → (List AV → Res) → Res :=
  @Nat.rec (fun _ => Nat → Tr AV → (List AV → Res) → Res) (fun _ _ k => k []) (fun _ ih o t k => getK t o fun v => finN (Nat.succ o) fun o => ih o t fun l => k (v :: l)) n
noncomputable def putK (l : List AV) : Nat → Tr AV → (Tr AV → Res) → Res :=
  @List.rec AV (fun _ => Nat → Tr AV → (Tr AV → Res) → Res) (fun _ t k => k t) (fun x _ ih o t k => setK t o x fun t => finN (Nat.succ o) fun o => ih o t k) l
noncomputable def loadK1 (E : Env) (t : TypeId) (p : AV) (H : AH) (k : KA) : Res :=
  p.ifPtr (fun b o => @AH.rec (fun _ => Res) (fun _ bs => getK bs b fun q => @Blk.rec (fun _ => Res) (fun len cs => iteK (Nat.blt o len) (getK cs o k) none) q) H) (optK (loadT E t p H) k)
noncomputable def loadKn (E : Env) (t : TypeId) (n : Nat) (p : AV) (H : AH) (k : KA) : Res :=
  p.ifPtr (fun b o => @AH.rec (fun _ => Res) (fun _ bs => getK bs b fun q => @Blk.rec (fun _ => Res) (fun len cs => iteK (Nat.ble (o + n) len) (takeK n o cs fun l => k (.agg l)) none) q) H) (optK (loadT E t p H) k)
noncomputable def isAggA : AV → Bool :=
  @AV.rec (fun _ => Bool) (fun _ => Unit) (fun _ _ => false) (fun _ _ _ _ => false) (fun _ => false) (fun _ => false) (fun _ _ => false) false (fun _ _ _ _ _ => false) false (fun _ _ _ _ _ => false) false (fun _ _ _ => false) false (fun _ _ => true) (fun _ _ => true) (fun _ => false) (fun _ => false) (fun _ => true) () (fun _ _ _ _ => ())
noncomputable def storeK (size : Nat) (p v : AV) (H : AH) (k : AH → Res) : Res :=
  p.ifPtr (fun b o => iteK (isAggA v) (iteK (Nat.beq v.cells.length size) (optK (storeA H b o v.cells) k) none)
    (iteK (Nat.beq size 1) (@AH.rec (fun _ => Res) (fun n bs => getK bs b fun q => @Blk.rec (fun _ => Res) (fun len cs => iteK (Nat.blt o len) (setK cs o v fun cs => setK bs b ⟨len, cs⟩ fun bs => k ⟨n, bs⟩) none) q) H) none)) none

/-! #### Numbers -/
noncomputable def capOf : IntKind → Nat := @IntKind.rec (fun _ => Nat) 127 32767 2147483647 9223372036854775807 255 65535 4294967295 18446744073709551615
noncomputable def kindNo : IntKind → Nat := @IntKind.rec (fun _ => Nat) 0 1 2 3 4 5 6 7
noncomputable def intCase (a b : Int) (k : Nat → Nat → Res) (no : Res) : Res :=
  @Int.rec (fun _ => Int → (Nat → Nat → Res) → Res → Res) (fun m b k no => @Int.rec (fun _ => Nat → (Nat → Nat → Res) → Res → Res) (fun n m k no => k m n) (fun _ _ _ no => no) b m k no) (fun _ _ _ no => no) a b k no
noncomputable def finI (k : IntKind) (n : Nat) (c : KA) (no : Res) : Res := iteK (Nat.ble n (capOf k)) (finN n fun n => c (.int k (.ofNat n))) no
structure IOp where
  run : IntKind → Nat → Nat → KA → Res → Res
noncomputable def iopOf : BinOp → IOp
  | .add => ⟨fun k m n c no => finI k (Nat.add m n) c no⟩
  | .sub => ⟨fun k m n c no => iteK (Nat.ble n m) (finI k (Nat.sub m n) c no) no⟩
  | .mul => ⟨fun k m n c no => finI k (Nat.mul m n) c no⟩
  | .eql => ⟨fun _ m n c _ => boolK (Nat.beq m n) c⟩
  | .neq => ⟨fun _ m n c _ => iteK (Nat.beq m n) (c (.bool false)) (c (.bool true))⟩
  | .lss => ⟨fun _ m n c _ => boolK (Nat.blt m n) c⟩
  | .leq => ⟨fun _ m n c _ => boolK (Nat.ble m n) c⟩
  | .gtr => ⟨fun _ m n c _ => boolK (Nat.blt n m) c⟩
  | .geq => ⟨fun _ m n c _ => boolK (Nat.ble n m) c⟩
  | _ => ⟨fun _ _ _ _ no => no⟩
/-- Two texts, held against one another. -/
noncomputable def eqS : List UInt8 → List UInt8 → Bool :=
  @List.rec UInt8 (fun _ => List UInt8 → Bool) (fun r => @List.rec UInt8 (fun _ => Bool) true (fun _ _ _ => false) r)
    (fun x _ ih r => @List.rec UInt8 (fun _ => Bool) false (fun y s _ => @Bool.rec (fun _ => Bool) false (ih s) (Nat.beq x.toNat y.toNat)) r)
noncomputable def catK : List UInt8 → List UInt8 → (List UInt8 → Res) → Res :=
  @List.rec UInt8 (fun _ => List UInt8 → (List UInt8 → Res) → Res) (fun r k => k r) (fun x _ ih r k => ih r fun l => k (x :: l))
noncomputable def nthS : List UInt8 → Nat → Option UInt8 :=
  @List.rec UInt8 (fun _ => Nat → Option UInt8) (fun _ => none) (fun x _ ih n => @Nat.rec (fun _ => Option UInt8) (some x) (fun m _ => ih m) n)
structure SOp where
  run : List UInt8 → List UInt8 → KA → Res → Res
noncomputable def sopOf : BinOp → SOp
  | .add => ⟨fun s t c no => iteK (Nat.ble (Nat.add s.length t.length) 1000000000) (catK s t fun l => c (.str l)) no⟩
  | .eql => ⟨fun s t c _ => boolK (eqS s t) c⟩
  | .neq => ⟨fun s t c _ => iteK (eqS s t) (c (.bool false)) (c (.bool true))⟩
  | _ => ⟨fun _ _ _ no => no⟩
noncomputable def binK (r : IntKind → Nat → Nat → KA → Res → Res) (q : List UInt8 → List UInt8 → KA → Res → Res) (x y : AV) (c : KA) (slow : Res) : Res :=
  x.ifInt (fun k a => y.ifInt (fun k' b => iteK (Nat.beq (kindNo k) (kindNo k')) (intCase a b (fun m n => r k m n c slow) slow) slow) slow)
    (x.ifStr (fun s => y.ifStr (fun t => q s t c slow) slow) slow)

/-! #### Operations -/
/-- A call's end, and how it goes on: what is called is a term of its own, so it is run once where it comes again. -/
noncomputable def memoK (x : Res) (k : KV) : Res := @Option.rec (Ext × AV × AH) (fun _ => KV → Res) (fun _ => none) (fun p k => @Prod.rec Ext (AV × AH) (fun _ => KV → Res) (fun _ q k => @Prod.rec AV AH (fun _ => KV → Res) (fun v H k => k v H) q k) p k) x k
def endK : KV := fun v H => some (.ret, v, H)
/-- The table, and who answers calls. -/
structure CE where
  E : Env
  call : CallK
structure Step where
  run : CE → NF → AH → KN → Res
noncomputable def miniF : List Nat → NF → Tr AV → (Tr AV → Res) → Res
  | [], _, t, k => k t
  | i :: l, F, t, k => @Slot.rec (fun _ => Res) (fun g _ => g F fun v => setK t i v fun t => miniF l F t k) (slotOf i)
noncomputable def finK (call : CallK) (w : AV → NF → (NF → Res) → Res) (F : NF) (r : R) (k : KN) : Res :=
  @R.rec (fun _ => Res) (fun v H => w v F fun F => k F H) (fun H => w (.tup []) F fun F => k F H) (fun f args H => memoK (call f args H endK) fun v H => w v F fun F => k F H) r
abbrev VStep := NF → AH → KA → Res
structure VClo where
  run : VStep
noncomputable def vStep (o : VStep) (w : AV → NF → (NF → Res) → Res) : Step := ⟨fun _ F H k => o F H fun v => w v F fun F => k F H⟩
noncomputable def rd1 (x : COpd) (f : (NF → KA → Res) → Step) : Step := @Rd.rec (fun _ => Step) f (rdOf x)
/-- A new block of such cells. -/
noncomputable def newK (len : Nat) (cells : Tr AV) (H : AH) (k : Nat → AH → Res) : Res :=
  @AH.rec (fun _ => (Nat → AH → Res) → Res) (fun n bs k => setK bs n ⟨len, cells⟩ fun bs => finN (Nat.succ n) fun m => k n ⟨m, bs⟩) H k
noncomputable def newL (l : List AV) (H : AH) (k : Nat → AH → Res) : Res :=
  iteK (l.all okc) (finN l.length fun len => putK l 0 .nil fun t => newK len t H k) none
noncomputable def pairs : List Nat → List AV → List (Nat × AV)
  | j :: js, v :: vs => (j, v) :: pairs js vs
  | _, _ => []
def nilcB : AV → Bool
  | .ptr _ _ => true
  | .func _ _ _ => true
  | .iface _ _ => true
  | .glob _ => true
  | _ => false
def isOneL : List AV → List AV → Bool
  | [], [_] => true
  | _, _ => false
noncomputable def semO (w : AV → NF → (NF → Res) → Res) : CO → Step
  | .mv x => rd1 x fun g => ⟨fun _ F H k => g F fun v => w v F fun F => k F H⟩
  | .bin op t x y => rd1 x fun g => rd1 y fun h => @IOp.rec (fun _ => Step) (fun r => @SOp.rec (fun _ => Step) (fun q => ⟨fun c F H k => g F fun a => h F fun b => binK r q a b (fun v => w v F fun F => k F H) (optK (binA c.E op t a b) fun v => w v F fun F => k F H)⟩) (sopOf op)) (iopOf op)
  | .pick c a b => rd1 c fun gc => rd1 a fun ga => rd1 b fun gb => ⟨fun _ F H k => gc F fun v => v.ifBool (fun t => @Bool.rec (fun _ => Res) (gb F fun v => w v F fun F => k F H) (ga F fun v => w v F fun F => k F H) t) none⟩
  | .lenS x => rd1 x fun g => ⟨fun _ F H k => g F fun v => v.ifStr (fun s => finN s.length fun n => w (.int .i64 (.ofNat n)) F fun F => k F H) none⟩
  | .lenL x => rd1 x fun g => ⟨fun _ F H k => g F fun v => v.ifSl (fun _ _ n _ => w (.int .i64 (.ofNat n)) F fun F => k F H) (w (.int .i64 (.ofNat 0)) F fun F => k F H) none⟩
  | .load t agg n x => rd1 x fun g => @Bool.rec (fun _ => Step) ⟨fun c F H k => g F fun p => loadK1 c.E t p H fun v => w v F fun F => k F H⟩ ⟨fun c F H k => g F fun p => loadKn c.E t n p H fun v => w v F fun F => k F H⟩ agg
  | .store n a x => rd1 a fun g => rd1 x fun h => ⟨fun _ F H k => g F fun p => h F fun v => storeK n p v H fun H => w (.tup []) F fun F => k F H⟩
  | .fa q x => rd1 x fun g => ⟨fun _ F H k => g F fun p => p.ifPtr (fun b o => finN (Nat.add o q) fun o => w (.ptr b o) F fun F => k F H) none⟩
  | .ia es x ix => rd1 x fun g => rd1 ix fun h => ⟨fun _ F H k => g F fun a => h F fun i => a.ifSl (fun b o len e => i.ifInt (fun _ n => @Int.rec (fun _ => Res) (fun n => iteK (Nat.blt n len) (iteK (Nat.beq es e) (finN (Nat.add o (Nat.mul n e)) fun o => w (.ptr b o) F fun F => k F H) none) none) (fun _ => none) n) none) none none⟩
  | .idx x ix => rd1 x fun g => rd1 ix fun h => ⟨fun c F H k => g F fun a => h F fun i => a.ifStr (fun s => i.ifInt (fun _ n => @Int.rec (fun _ => Res) (fun n => optK (nthS s n) fun c => finN c.toNat fun n => w (.int .u8 (.ofNat n)) F fun F => k F H) (fun _ => none) n) none) none⟩
  | .not x => rd1 x fun g => ⟨fun _ F H k => g F fun v => v.ifBool (fun t => @Bool.rec (fun _ => Res) (w (.bool true) F fun F => k F H) (w (.bool false) F fun F => k F H) t) none⟩
  | .call f l => @Rds.rec (fun _ => Step) (fun gs => ⟨fun c F H k => gs F fun as => memoK (c.call f as H endK) fun v H => w v F fun F => k F H⟩) (rdsOf l)
  | .callv x l => rd1 x fun g => @Rds.rec (fun _ => Step) (fun gs => ⟨fun c F H k => g F fun fv => gs F fun as => fv.ifFunc (fun f a b => memoK (c.call f (a ++ as ++ b) H endK) fun v H => w v F fun F => k F H) none⟩) (rdsOf l)
  | .ext x j => rd1 x fun g => ⟨fun _ F H k => g F fun v => v.ifTup (fun l => optK (l[j]?) fun v => w v F fun F => k F H) none⟩
  | .box x => rd1 x fun g => ⟨fun _ F H k => g F fun v => iteK (isAggA v) (newL v.cells H fun n H => w (.ptr n 0) F fun F => k F H) (setK .nil 0 v fun t => newK 1 t H fun n H => w (.ptr n 0) F fun F => k F H)⟩
  | .new z => ⟨fun _ F H k => newK z.length (Tr.nil.put 0 z) H fun n H => w (.ptr n 0) F fun F => k F H⟩
  | .mkf f a b => @Rds.rec (fun _ => Step) (fun ga => @Rds.rec (fun _ => Step) (fun gb => ⟨fun _ F H k => ga F fun a => gb F fun b => w (.func f a b) F fun F => k F H⟩) (rdsOf b)) (rdsOf a)
  | .bsl size z len js ps => @Rds.rec (fun _ => Step) (fun gs => ⟨fun _ F H k => gs F fun vs => optK (placeS size (pairs js vs)) fun l => optK (fillA (replA z len) l) fun cs => newL cs H fun n H => w (.slice n 0 len size true) F fun F => k F H⟩) (rdsOf ps)
  | .bst fs z js ps => @Rds.rec (fun _ => Step) (fun gs => ⟨fun c F H k => gs F fun vs => optK (placeA c.E fs (pairs js vs)) fun l => optK (fillA z l) fun cs => w (.agg cs) F fun F => k F H⟩) (rdsOf ps)
  | .convi kk x => rd1 x fun g => ⟨fun c F H k => g F fun v => v.ifInt (fun _ n => @Int.rec (fun _ => Res) (fun n => iteK (Nat.ble n (capOf kk)) (w (.int kk (.ofNat n)) F fun F => k F H) (optK (convI c.E kk v H) fun r => finK (fun _ _ _ _ => none) w F r k)) (fun _ => optK (convI c.E kk v H) fun r => finK (fun _ _ _ _ => none) w F r k) n) (optK (convI c.E kk v H) fun r => finK (fun _ _ _ _ => none) w F r k)⟩
  | .conv s d x => rd1 x fun g => ⟨fun c F H k => g F fun v => optK (convA c.E s d v H) fun r => finK (fun _ _ _ _ => none) w F r k⟩
  | .sl t x lo hi mx => rd1 x fun g => @RdO.rec (fun _ => Step) (fun gl => @RdO.rec (fun _ => Step) (fun gh => @RdO.rec (fun _ => Step) (fun gm => ⟨fun c F H k => g F fun a => gl F fun l => gh F fun h => gm F fun m => optK (sliceA c.E t a l h m) fun v => w v F fun F => k F H⟩) (rdoOf mx)) (rdoOf hi)) (rdoOf lo)
  | .ifc t x => rd1 x fun g => ⟨fun _ F H k => g F fun v => w (.iface t v) F fun F => k F H⟩
  | .nilc x => rd1 x fun g => ⟨fun _ F H k => g F fun v => iteK (nilcB v) (w v F fun F => k F H) none⟩
  | .un op x => rd1 x fun g => ⟨fun c F H k => g F fun v => optK (unA c.E op v) fun v => w v F fun F => k F H⟩
  | .app t u x y => rd1 x fun g => rd1 y fun h => ⟨fun c F H k => g F fun a => h F fun b => optK (appendA c.E t u a b H) fun r => finK (fun _ _ _ _ => none) w F r k⟩
  | .fld q i x => rd1 x fun g => ⟨fun _ F H k => g F fun v => optK (match v with | .agg cs => partA i cs q | _ => none) fun v => w v F fun F => k F H⟩
  | .dfr x => rd1 x fun g => ⟨fun c F H k => g F fun v => v.ifFunc (fun f a b => iteK (isOneL a b) (iteK (c.E.quiet f) (k F H) none) none) none⟩
  | .gen o rs => ⟨fun c F H k => miniF rs F .nil fun G => optK (exOp c.E G o H) fun r => finK c.call w F r k⟩
noncomputable def guardS (g : NF → KA → Res) (w : AV → NF → (NF → Res) → Res) (s : CE → NF → AH → KN → Res) (want : Bool) : Step :=
  @Bool.rec (fun _ => Step)
    ⟨fun call F H k => g F fun v => v.ifBool (fun b => iteK b (w (.tup []) F fun F => k F H) (s call F H k)) (v.ifTup (fun _ => w (.tup []) F fun F => k F H) none)⟩
    ⟨fun call F H k => g F fun v => v.ifBool (fun b => iteK b (s call F H k) (w (.tup []) F fun F => k F H)) (v.ifTup (fun _ => w (.tup []) F fun F => k F H) none)⟩ want
noncomputable def semOp (c : COp) : Step :=
  @COp.rec (fun _ => Step) (fun g d o => @Wr.rec (fun _ => Step) (fun w => @Step.rec (fun _ => Step) (fun s =>
    @Option.rec (Nat × Bool) (fun _ => Step) ⟨s⟩ (fun p => @Prod.rec Nat Bool (fun _ => Step) (fun t want => @Slot.rec (fun _ => Step) (fun g _ => guardS g w s want) (slotOf t)) p) g) (semO w o)) (wrOf d)) c
noncomputable def semOps : List COp → Step
  | [] => ⟨fun _ F H k => k F H⟩
  | o :: l => @Step.rec (fun _ => Step) (fun s => @Step.rec (fun _ => Step) (fun r => ⟨fun call F H k => s call F H fun F H => r call F H k⟩) (semOps l)) (semOp o)

/-! #### Code -/
def directF (call : CallK) : CallF := fun f args H => match call f args H fun v H => some (.ret, v, H) with
  | some (_, v, H) => some (v, H)
  | none => none
structure DStep where
  run : CE → NF → AH → List AH → Tr Blk → KN → Res
structure GClo where
  run : NF → (Bool → Res) → Res
noncomputable def gclo : Option (Nat × Bool) → GClo
  | none => ⟨fun _ k => k true⟩
  | some (t, w) => @Slot.rec (fun _ => GClo) (fun g _ => ⟨fun F k => g F fun v => v.ifBool (fun b => k (b == w)) (v.ifTup (fun _ => k false) none)⟩) (slotOf t)
def iniK (b : Bool) (H H' : AH) (ini : Tr Blk) : Tr Blk := match b with
  | true => match H'.bs.get H.n with
    | some k => ini.set H.n k
    | none => ini
  | false => ini
def sameB (b : Bool) (E : Env) (t : TypeId) (p : AV) (H : AH) (d : Nat) (past : List AH) (ini : Tr Blk) : Bool := match b with
  | false => true
  | true => match loadT E t p H with
    | some v => wasSo E t p v ini (past.tail.take d)
    | none => false
noncomputable def semD1 (s : CE → NF → AH → KN → Res) (r : CE → NF → AH → List AH → Tr Blk → KN → Res) (gd : Option (Nat × Bool)) : DK → DStep
  | .plain => ⟨fun e F H past ini k => s e F H fun F H => r e F H past ini k⟩
  | .sp => ⟨fun e F H past ini k => s e F H fun F H => r e F H (H :: past) ini k⟩
  | .al => @GClo.rec (fun _ => DStep) (fun g => ⟨fun e F H past ini k => g F fun b => s e F H fun F H' => r e F H' past (iniK b H H' ini) k⟩) (gclo gd)
  | .ld t a d => @GClo.rec (fun _ => DStep) (fun g => @Rd.rec (fun _ => DStep) (fun h => ⟨fun e F H past ini k => g F fun b => h F fun p => iteK (sameB b e.E t p H d past ini) (s e F H fun F H => r e F H past ini k) none⟩) (rdOf a)) (gclo gd)
noncomputable def semD : List (COp × DK) → DStep
  | [] => ⟨fun _ F H _ _ k => k F H⟩
  | x :: l => @Prod.rec COp DK (fun _ => DStep) (fun c q => @Step.rec (fun _ => DStep) (fun s => @DStep.rec (fun _ => DStep) (fun r => semD1 s r c.g q) (semD l)) (semOp c)) x
noncomputable def putsK : List Nat → List AV → NF → (NF → Res) → Res
  | [], [], F, k => k F
  | d :: l, v :: r, F, k => @Slot.rec (fun _ => Res) (fun _ s => s v F fun F => putsK l r F k) (slotOf d)
  | _, _, _, _ => none
abbrev KE := Nat → NF → AH → Res
structure CSem where
  run : CE → Nat → NF → AH → KN → KE → KN → Res
noncomputable def roundK (a b : CE → Nat → NF → AH → KN → KE → KN → Res) (ps : List Nat) (call : CE) (L : Nat) (F : NF) : RoundF := fun args H =>
  match putsK ps args F fun F1 => a call L F1 H (fun F2 H2 => b call L F2 H2 (fun _ H => some (.normal, .tup [], H)) (fun j _ H => some (.exit j, .tup [], H)) (fun _ H => some (.ret, .tup [], H))) (fun _ _ _ => none) (fun _ _ => none) with
  | some (e, _, H) => some (e, H)
  | none => none
noncomputable def outK (r : Option (Ext × AH)) (F : NF) (kn : KN) (ke : KE) (kr : KN) : Res :=
  optK r fun p => @Prod.rec Ext AH (fun _ => Res) (fun e H => @Ext.rec (fun _ => Res) (kn F H) (fun j => ke j F H) (kr F H) e) p
noncomputable def semC (nt : Nat) : CC → CSem
  | .skip => ⟨fun _ _ F H kn _ _ => kn F H⟩
  | .reg l => @Step.rec (fun _ => CSem) (fun s => ⟨fun call _ F H kn _ _ => s call F H kn⟩) (semOps l)
  | .drawn l => @DStep.rec (fun _ => CSem) (fun s => ⟨fun call _ F H kn _ _ => s call F H [H] .nil kn⟩) (semD l)
  | .seq a b => @CSem.rec (fun _ => CSem) (fun x => @CSem.rec (fun _ => CSem) (fun y => ⟨fun call L F H kn ke kr => x call L F H (fun F H => y call L F H kn ke kr) ke kr⟩) (semC nt b)) (semC nt a)
  | .cond c a b => @Rd.rec (fun _ => CSem) (fun g => @CSem.rec (fun _ => CSem) (fun x => @CSem.rec (fun _ => CSem) (fun y => ⟨fun call L F H kn ke kr => g F fun v => v.ifBool (fun t => iteK t (x call L F H kn ke kr) (y call L F H kn ke kr)) none⟩) (semC nt b)) (semC nt a)) (rdOf c)
  | .block id a => @CSem.rec (fun _ => CSem) (fun x => ⟨fun call L F H kn ke kr => x call L F H kn (fun j F H => iteK (Nat.beq j id) (kn F H) (ke j F H)) kr⟩) (semC nt a)
  | .loop a => @CSem.rec (fun _ => CSem) (fun x => ⟨fun call L F H _ ke kr => @Nat.rec (fun _ => NF → AH → Res) (fun _ _ => none) (fun _ ih F H => x call L F H ih ke kr) L F H⟩) (semC nt a)
  | .range g ps a b => @Rd.rec (fun _ => CSem) (fun g => @CSem.rec (fun _ => CSem) (fun x => @CSem.rec (fun _ => CSem) (fun y => ⟨fun call L F H kn ke kr => g F fun v => v.ifFunc (fun gf first cap => @List.rec AV (fun _ => Res) (outK (iterA call.E (directF call.call) (roundK x y ps call L F) L gf cap H) F kn ke kr) (fun _ _ _ => none) first) none⟩) (semC nt b)) (semC nt a)) (rdOf g)
  | .tail a b c x y => @Step.rec (fun _ => CSem) (fun sa => @Step.rec (fun _ => CSem) (fun sb => @Step.rec (fun _ => CSem) (fun sc => @Rd.rec (fun _ => CSem) (fun gx => @Rd.rec (fun _ => CSem) (fun gy => ⟨fun call _ F H kn _ _ => sa call F H fun F1 H1 => gx F1 fun px => gy F1 fun py => px.ifPtr (fun i _ => py.ifPtr (fun j _ => iteK (Nat.beq i j) none (sb call F1 H1 fun F2 H2 => sc call F2 H2 kn)) none) none⟩) (rdOf y)) (rdOf x)) (semOp c)) (semOp b)) (semOp a)
  | .exit id => ⟨fun _ _ F H _ ke _ => ke id F H⟩
  | .ret => ⟨fun _ _ F H _ _ kr => kr F H⟩
def e1 : N8 AV := ⟨.tup [], .tup [], .tup [], .tup [], .tup [], .tup [], .tup [], .tup []⟩
def e2 : N8 (N8 AV) := ⟨e1, e1, e1, e1, e1, e1, e1, e1⟩
def e3 : NF := ⟨e2, e2, e2, e2, e2, e2, e2, e2⟩
structure RSem where
  run : CE → NF → AH → (List AV → Res) → Res
noncomputable def resOf : List CRes → RSem
  | [] => ⟨fun _ _ _ k => k []⟩
  | .t i :: l => @Slot.rec (fun _ => RSem) (fun g _ => @RSem.rec (fun _ => RSem) (fun r => ⟨fun c F H k => g F fun v => r c F H fun l => k (v :: l)⟩) (resOf l)) (slotOf i)
  | .cell a t :: l => @Slot.rec (fun _ => RSem) (fun g _ => @RSem.rec (fun _ => RSem) (fun r => ⟨fun c F H k => g F fun p => p.ifPtr (fun b o => optK (loadT c.E t (.ptr b o) H) fun v => r c F H fun l => k (v :: l)) none⟩) (resOf l)) (slotOf a)
noncomputable def oneK (l : List AV) (k : KA) : Res := @List.rec AV (fun _ => Res) (k (.tup [])) (fun v r _ => @List.rec AV (fun _ => Res) (k v) (fun w s _ => k (.tup (v :: w :: s))) r) l
structure FnSem where
  run : CE → Nat → List AV → AH → KV → Res
noncomputable def enterK (l : List AV) : Nat → NF → (NF → Res) → Res :=
  @List.rec AV (fun _ => Nat → NF → (NF → Res) → Res) (fun _ F k => k F) (fun x _ ih i F k => @Slot.rec (fun _ => Res) (fun _ s => s x F fun F => ih (Nat.succ i) F k) (slotOf i)) l
noncomputable def semFn (c : CFn) : FnSem :=
  @CFn.rec (fun _ => FnSem) (fun nt body res => @CSem.rec (fun _ => FnSem) (fun b => @RSem.rec (fun _ => FnSem) (fun r => ⟨fun call L args H k =>
    iteK (Nat.ble args.length nt) (enterK args 0 e3 fun F => b call L F H (fun F H => r call F H fun l => oneK l fun v => k v H) (fun _ _ _ => none) (fun F H => r call F H fun l => oneK l fun v => k v H)) none⟩) (resOf res)) (semC nt body)) c
noncomputable def hookK (f : FuncId) : FnSem := ⟨fun c _ args H k => optK (c.E.hook f args H) fun p => k p.1 p.2⟩
noncomputable def fnOf (ty : Tr TI) (fn : Tr FI) (f : FuncId) : FnSem := @Option.rec FI (fun _ => FnSem) (hookK f) (fun i => @Option.rec CFn (fun _ => FnSem) ⟨fun _ _ _ _ _ => none⟩ (fun c => semFn c) (compFn ty i)) (fn.get f)
noncomputable def fastF (ty : Tr TI) (fn : Tr FI) (E : Env) (L : Nat) : Nat → CallK := @Nat.rec (fun _ => CallK) (fun _ _ _ _ => none) (fun _ ih f args H k => (fnOf ty fn f).run ⟨E, ih⟩ L args H k)
/-- What the fast twin says of a law. -/
noncomputable def fastB (ty : Tr TI) (fn : Tr FI) (E : Env) (L n : Nat) (f : FuncId) (args : List AV) : Bool := match fastF ty fn E L n f args ⟨0, .nil⟩ (fun v H => some (.ret, v, H)) with
  | some (_, .bool b, _) => b
  | _ => false
end Go.Proofs.YteopodohghnokaaGreatDoor.Ex
end
section
namespace Go.Proofs.YteopodohghnokaaGreatDoor.Ex
open Go
set_option linter.unusedVariables false
set_option linter.unusedSimpArgs false

theorem optK_some {α : Type} (v : α) (k : α → Res) : optK (some v) k = k v := rfl
theorem optK_none {α : Type} (k : α → Res) : optK none k = none := rfl
theorem optK_ok {α : Type} {x : Option α} {k : α → Res} {r : Ext × AV × AH} (h : optK x k = some r) : ∃ v, x = some v ∧ k v = some r := by
  cases x with
  | none => cases h
  | some v => exact ⟨v, rfl, h⟩
theorem finN_eq (n : Nat) (k : Nat → Res) : finN n k = k n := by cases n <;> rfl
theorem iteK_ok {b : Bool} {x y : Res} {r : Ext × AV × AH} (h : iteK b x y = some r) : (b = true ∧ x = some r) ∨ (b = false ∧ y = some r) := by
  cases b
  · exact .inr ⟨rfl, h⟩
  · exact .inl ⟨rfl, h⟩
theorem iteK_one {b : Bool} {x : Res} {r : Ext × AV × AH} (h : iteK b x none = some r) : b = true ∧ x = some r := by
  cases b
  · cases h
  · exact ⟨rfl, h⟩
theorem boolK_eq (b : Bool) (k : KA) : boolK b k = k (.bool b) := by cases b <;> rfl

theorem ifInt_ok {x : AV} {y : IntKind → Int → Res} {n : Res} {r : Ext × AV × AH} (h : x.ifInt y n = some r) : (∃ k i, x = .int k i ∧ y k i = some r) ∨ n = some r := by
  cases x <;> first | exact .inl ⟨_, _, rfl, h⟩ | exact .inr h
theorem ifBool_ok {x : AV} {y : Bool → Res} {n : Res} {r : Ext × AV × AH} (h : x.ifBool y n = some r) : (∃ b, x = .bool b ∧ y b = some r) ∨ n = some r := by
  cases x <;> first | exact .inl ⟨_, rfl, h⟩ | exact .inr h
theorem ifStr_ok {x : AV} {y : List UInt8 → Res} {n : Res} {r : Ext × AV × AH} (h : x.ifStr y n = some r) : (∃ s, x = .str s ∧ y s = some r) ∨ n = some r := by
  cases x <;> first | exact .inl ⟨_, rfl, h⟩ | exact .inr h
theorem ifPtr_ok {x : AV} {y : Nat → Nat → Res} {n : Res} {r : Ext × AV × AH} (h : x.ifPtr y n = some r) : (∃ b o, x = .ptr b o ∧ y b o = some r) ∨ n = some r := by
  cases x <;> first | exact .inl ⟨_, _, rfl, h⟩ | exact .inr h
theorem ifSl_ok {x : AV} {y : Nat → Nat → Nat → Nat → Res} {z n : Res} {r : Ext × AV × AH} (h : x.ifSl y z n = some r) : (∃ b o l e f, x = .slice b o l e f ∧ y b o l e = some r) ∨ (x = .nilslice ∧ z = some r) ∨ n = some r := by
  cases x <;> first | exact .inl ⟨_, _, _, _, _, rfl, h⟩ | exact .inr (.inl ⟨rfl, h⟩) | exact .inr (.inr h)
theorem ifTup_ok {x : AV} {y : List AV → Res} {n : Res} {r : Ext × AV × AH} (h : x.ifTup y n = some r) : (∃ l, x = .tup l ∧ y l = some r) ∨ n = some r := by
  cases x <;> first | exact .inl ⟨_, rfl, h⟩ | exact .inr h
theorem ifFunc_ok {x : AV} {y : FuncId → List AV → List AV → Res} {n : Res} {r : Ext × AV × AH} (h : x.ifFunc y n = some r) : (∃ f a b, x = .func f a b ∧ y f a b = some r) ∨ n = some r := by
  cases x <;> first | exact .inl ⟨_, _, _, rfl, h⟩ | exact .inr h

/-! ### Slots -/
theorem dig_get (α : Type) (i : Nat) (n : N8 α) (k : α → Res) : (dig α i).get n k = k (n.sel i) := by
  rcases i with _ | _ | _ | _ | _ | _ | _ | i <;> rfl
theorem dig_up (α : Type) (i : Nat) (g : α → (α → Res) → Res) (n : N8 α) (k : N8 α → Res) : (dig α i).up g n k = g (n.sel i) fun y => k (n.upd i fun _ => y) := by
  obtain ⟨a0, a1, a2, a3, a4, a5, a6, a7⟩ := n
  rcases i with _ | _ | _ | _ | _ | _ | _ | i <;> rfl
def look (F : NF) (t : Nat) : AV := ((F.sel (t / 64 % 8)).sel (t / 8 % 8)).sel (t % 8)
def upF (F : NF) (t : Nat) (v : AV) : NF := F.upd (t / 64 % 8) fun a => a.upd (t / 8 % 8) fun b => b.upd (t % 8) fun _ => v
theorem slot_get (t : Nat) (F : NF) (k : KA) : (slotOf t).get F k = k (look F t) := by
  show (dig _ (t / 64 % 8)).get F (fun x => (dig _ (t / 8 % 8)).get x fun y => (dig _ (t % 8)).get y k) = _
  rw [dig_get, dig_get, dig_get]
  rfl
theorem upd_const {α : Type} (n : N8 α) (i : Nat) (f : α → α) : (n.upd i fun _ => f (n.sel i)) = n.upd i f := by
  obtain ⟨a0, a1, a2, a3, a4, a5, a6, a7⟩ := n
  rcases i with _ | _ | _ | _ | _ | _ | _ | i <;> rfl
theorem upd_in {α : Type} (n : N8 (N8 α)) (i j : Nat) (f : α → α) : (n.upd i fun _ => (n.sel i).upd j f) = n.upd i fun a => a.upd j f := upd_const n i (fun a => a.upd j f)
theorem slot_set (t : Nat) (v : AV) (F : NF) (k : NF → Res) : (slotOf t).set v F k = k (upF F t v) := by
  show (dig _ (t / 64 % 8)).up (fun b k => (dig _ (t / 8 % 8)).up (fun c k => (dig _ (t % 8)).up (fun _ k => k v) c k) b k) F k = _
  simp only [dig_up, upd_in]
  rfl
theorem look_up (F : NF) {t u : Nat} (v : AV) (ht : t < 512) (hu : u < 512) : look (upF F u v) t = if u = t then v else look F t := by
  unfold look upF
  rw [N8.sel_upd _ _ (by omega) (by omega)]
  by_cases e : u = t
  · subst e
    rw [if_pos rfl, N8.sel_upd_same, N8.sel_upd_same, if_pos rfl]
  · rw [if_neg e]
    split
    · rw [N8.sel_upd _ _ (by omega) (by omega)]
      split
      · rw [N8.sel_upd_ne _ _ (by omega) (by omega) (by omega)]
      · rfl
    · rfl

/-- A frame of the twin's reads as the runner's. -/
def RF (F : NF) (G : Fr) : Prop := ∀ t, t < 512 → look F t = tmpA G t
theorem RF.set {F : NF} {G : Fr} (h : RF F G) {u : Nat} (hu : u < 512) (v : AV) : RF (upF F u v) (G.set u v) := fun t ht => by
  rw [look_up F v ht hu, tmpA_set, h t ht]

def wrV (d : Option Nat) (v : AV) (F : NF) : NF := match d with
  | none => F
  | some t => upF F t v
theorem wr_eq (d : Option Nat) (v : AV) (F : NF) (k : NF → Res) : (wrOf d).run v F k = k (wrV d v F) := by
  cases d with
  | none => rfl
  | some t => exact slot_set t v F k
def opdV (F : NF) : COpd → AV
  | .t i => look F i
  | .c v => v
theorem rd_eq (x : COpd) (F : NF) (k : KA) : (rdOf x).run F k = k (opdV F x) := by
  cases x with
  | t i => exact slot_get i F k
  | c v => rfl
theorem rds_eq : ∀ (l : List COpd) (F : NF) (k : List AV → Res), (rdsOf l).run F k = k (l.map (opdV F))
  | [], F, k => rfl
  | x :: l, F, k => by
    show (rdOf x).run F (fun v => (rdsOf l).run F fun r => k (v :: r)) = _
    rw [rd_eq, rds_eq l]
    rfl
theorem rdo_eq (x : Option COpd) (F : NF) (k : Option AV → Res) : (rdoOf x).run F k = k (x.map (opdV F)) := by
  cases x with
  | none => rfl
  | some x => exact rd_eq x F _

/-! ### Tables -/
theorem canD_eq {α : Type} (n : Nat) (k : Nat → TrC α) : canD n k = k n := by cases n <;> rfl
theorem trc0_get {α : Type} (d0 : Dg (Option α)) (t : Tr α) (k : α → Res) : (trc0 α d0).get t k = d0.get t.s0 fun x => optK x k := rfl
theorem trc0_set {α : Type} (d0 : Dg (Option α)) (t : Tr α) (x : α) (k : Tr α → Res) : (trc0 α d0).set x t k = d0.up (fun _ k => k (some x)) t.s0 fun r => k { t with s0 := r } := rfl
theorem ble_lt (i n : Nat) : Nat.ble i n = decide (i < n + 1) := by
  by_cases h : i < n + 1
  · rw [decide_eq_true h, Nat.ble_eq]; omega
  · rw [decide_eq_false h]
    cases q : Nat.ble i n with
    | false => rfl
    | true => rw [Nat.ble_eq] at q; omega
theorem trc_lvl {α : Type} (i : Nat) : trc α i = match lvl i with
    | 0 => trl0 α i
    | 1 => trl1 α i
    | 2 => trl2 α i
    | 3 => trl3 α i
    | 4 => trl4 α i
    | _ => trl5 α i := by
  unfold trc trm1 trm2 trm3 trm4
  rw [ble_lt i 7, ble_lt i 63, ble_lt i 511, ble_lt i 4095, ble_lt i 32767]
  rcases lvl_cases i with ⟨e, h⟩ | ⟨e, h⟩ | ⟨e, h⟩ | ⟨e, h⟩ | ⟨e, h⟩ | ⟨e, h⟩ <;> rw [e]
  · rw [decide_eq_true (by omega : i < 7 + 1)]
    rfl
  · rw [decide_eq_false (by omega : ¬ i < 7 + 1), decide_eq_true (by omega : i < 63 + 1)]
    rfl
  · rw [decide_eq_false (by omega : ¬ i < 7 + 1), decide_eq_false (by omega : ¬ i < 63 + 1), decide_eq_true (by omega : i < 511 + 1)]
    rfl
  · rw [decide_eq_false (by omega : ¬ i < 7 + 1), decide_eq_false (by omega : ¬ i < 63 + 1), decide_eq_false (by omega : ¬ i < 511 + 1), decide_eq_true (by omega : i < 4095 + 1)]
    rfl
  · rw [decide_eq_false (by omega : ¬ i < 7 + 1), decide_eq_false (by omega : ¬ i < 63 + 1), decide_eq_false (by omega : ¬ i < 511 + 1), decide_eq_false (by omega : ¬ i < 4095 + 1), decide_eq_true (by omega : i < 32767 + 1)]
    rfl
  · rw [decide_eq_false (by omega : ¬ i < 7 + 1), decide_eq_false (by omega : ¬ i < 63 + 1), decide_eq_false (by omega : ¬ i < 511 + 1), decide_eq_false (by omega : ¬ i < 4095 + 1), decide_eq_false (by omega : ¬ i < 32767 + 1)]
    rfl
theorem getK_eq {α : Type} (t : Tr α) (i : Nat) (k : α → Res) : getK t i k = optK (t.get i) k := by
  unfold getK
  rw [trc_lvl]
  rcases lvl_cases i with ⟨e, h⟩ | ⟨e, h⟩ | ⟨e, h⟩ | ⟨e, h⟩ | ⟨e, h⟩ | ⟨e, h⟩ <;> simp only [e, Tr.get]
  · show (dig _ i).get t.s0 _ = _
    rw [dig_get]
  · unfold trl1
    simp only [canD_eq]
    show (dig _ (i / 8)).get t.s1 (fun x => (dig _ (i % 8)).get x fun x => optK x k) = _
    rw [dig_get, dig_get]
  · unfold trl2
    simp only [canD_eq]
    show (dig _ (i / 64)).get t.s2 (fun x => (dig _ (i / 8 % 8)).get x fun x => (dig _ (i % 8)).get x fun x => optK x k) = _
    rw [dig_get, dig_get, dig_get]
  · unfold trl3
    simp only [canD_eq]
    show (dig _ (i / 512)).get t.s3 (fun x => (dig _ (i / 64 % 8)).get x fun x => (dig _ (i / 8 % 8)).get x fun x => (dig _ (i % 8)).get x fun x => optK x k) = _
    rw [dig_get, dig_get, dig_get, dig_get]
  · unfold trl4
    simp only [canD_eq]
    show (dig _ (i / 4096)).get t.s4 (fun x => (dig _ (i / 512 % 8)).get x fun x => (dig _ (i / 64 % 8)).get x fun x => (dig _ (i / 8 % 8)).get x fun x => (dig _ (i % 8)).get x fun x => optK x k) = _
    rw [dig_get, dig_get, dig_get, dig_get, dig_get]
  · show optK (t.get i) k = _
    simp only [Tr.get, e]
theorem setK_eq {α : Type} (t : Tr α) (i : Nat) (x : α) (k : Tr α → Res) : setK t i x k = k (t.set i x) := by
  unfold setK Tr.set
  rw [trc_lvl]
  rcases lvl_cases i with ⟨e, h⟩ | ⟨e, h⟩ | ⟨e, h⟩ | ⟨e, h⟩ | ⟨e, h⟩ | ⟨e, h⟩ <;> simp only [e, Tr.upd]
  · show (dig _ i).up (fun _ k => k (some x)) t.s0 _ = _
    rw [dig_up]
  · unfold trl1
    simp only [canD_eq]
    show (dig _ (i / 8)).up (fun y k => (dig _ (i % 8)).up (fun _ k => k (some x)) y k) t.s1 (fun r => k { t with s1 := r }) = _
    simp only [dig_up, upd_in]
  · unfold trl2
    simp only [canD_eq]
    show (dig _ (i / 64)).up (fun y k => (dig _ (i / 8 % 8)).up (fun y k => (dig _ (i % 8)).up (fun _ k => k (some x)) y k) y k) t.s2 (fun r => k { t with s2 := r }) = _
    simp only [dig_up, upd_in]
  · unfold trl3
    simp only [canD_eq]
    show (dig _ (i / 512)).up (fun y k => (dig _ (i / 64 % 8)).up (fun y k => (dig _ (i / 8 % 8)).up (fun y k => (dig _ (i % 8)).up (fun _ k => k (some x)) y k) y k) y k) t.s3 (fun r => k { t with s3 := r }) = _
    simp only [dig_up, upd_in]
  · unfold trl4
    simp only [canD_eq]
    show (dig _ (i / 4096)).up (fun y k => (dig _ (i / 512 % 8)).up (fun y k => (dig _ (i / 64 % 8)).up (fun y k => (dig _ (i / 8 % 8)).up (fun y k => (dig _ (i % 8)).up (fun _ k => k (some x)) y k) y k) y k) y k) t.s4 (fun r => k { t with s4 := r }) = _
    simp only [dig_up, upd_in]
  · show k (t.set i x) = _
    simp only [Tr.set, Tr.upd, e]
theorem takeK_eq : ∀ (n o : Nat) (t : Tr AV) (k : List AV → Res), takeK n o t k = optK (t.take o n) k
  | 0, o, t, k => rfl
  | n + 1, o, t, k => by
    show (getK t o fun v => finN (Nat.succ o) fun o => takeK n o t fun l => k (v :: l)) = _
    rw [getK_eq]
    simp only [finN_eq, Tr.take]
    cases t.get o with
    | none => rfl
    | some v =>
      show takeK n (o + 1) t _ = _
      rw [takeK_eq n (o + 1)]
      cases t.take (o + 1) n <;> rfl
theorem putK_eq : ∀ (l : List AV) (o : Nat) (t : Tr AV) (k : Tr AV → Res), putK l o t k = k (t.put o l)
  | [], o, t, k => rfl
  | x :: l, o, t, k => by
    show (setK t o x fun t => finN (Nat.succ o) fun o => putK l o t k) = _
    rw [setK_eq]
    simp only [finN_eq]
    rw [putK_eq l]
    rfl

/-! ### Memory -/
theorem loadK1_ok {E : Env} {t : TypeId} {p : AV} {H : AH} {k : KA} {r : Ext × AV × AH} {i : TI} (hi : E.ty.get t = some i) (ha : i.kind.isAgg = false) (h : loadK1 E t p H k = some r) : ∃ v, loadT E t p H = some v ∧ k v = some r := by
  unfold loadK1 at h
  rcases ifPtr_ok h with ⟨b, o, rfl, h⟩ | h
  · obtain ⟨n, bs⟩ := H
    change (getK bs b fun q => @Blk.rec (fun _ => Res) (fun len cs => iteK (Nat.blt o len) (getK cs o k) none) q) = some r at h
    rw [getK_eq] at h
    obtain ⟨⟨len, cs⟩, hb, h⟩ := optK_ok h
    obtain ⟨hl, h⟩ := iteK_one h
    rw [getK_eq] at h
    obtain ⟨v, hv, h⟩ := optK_ok h
    refine ⟨v, ?_, h⟩
    unfold Nat.blt at hl
    rw [Nat.ble_eq] at hl
    simp only [loadT, hi, ha, loadA, hb, Tr.take, hv, Bool.false_eq_true, if_false]
    rw [if_pos hl]
  · exact optK_ok h
theorem loadKn_ok {E : Env} {t : TypeId} {p : AV} {H : AH} {k : KA} {r : Ext × AV × AH} {i : TI} (hi : E.ty.get t = some i) (ha : i.kind.isAgg = true) (h : loadKn E t i.size p H k = some r) : ∃ v, loadT E t p H = some v ∧ k v = some r := by
  unfold loadKn at h
  rcases ifPtr_ok h with ⟨b, o, rfl, h⟩ | h
  · obtain ⟨n, bs⟩ := H
    change (getK bs b fun q => @Blk.rec (fun _ => Res) (fun len cs => iteK (Nat.ble (o + i.size) len) (takeK i.size o cs fun l => k (.agg l)) none) q) = some r at h
    rw [getK_eq] at h
    obtain ⟨⟨len, cs⟩, hb, h⟩ := optK_ok h
    obtain ⟨hl, h⟩ := iteK_one h
    rw [takeK_eq] at h
    obtain ⟨l, hv, h⟩ := optK_ok h
    refine ⟨.agg l, ?_, h⟩
    rw [Nat.ble_eq] at hl
    simp only [loadT, hi, ha, loadA, hb, if_true]
    rw [if_pos hl, hv]
    rfl
  · exact optK_ok h
theorem isAggA_cells {v : AV} (h : isAggA v = false) : v.cells = [v] ∧ okc v = true := by
  cases v <;> first | exact ⟨rfl, rfl⟩ | cases h
theorem storeK_ok {size : Nat} {p v : AV} {H : AH} {k : AH → Res} {r : Ext × AV × AH} (h : storeK size p v H k = some r) : ∃ b o, p = .ptr b o ∧ v.cells.length = size ∧ ∃ H', storeA H b o v.cells = some H' ∧ k H' = some r := by
  unfold storeK at h
  rcases ifPtr_ok h with ⟨b, o, rfl, h⟩ | h
  · refine ⟨b, o, rfl, ?_⟩
    rcases iteK_ok h with ⟨ha, h⟩ | ⟨ha, h⟩
    · obtain ⟨hl, h⟩ := iteK_one h
      exact ⟨Nat.eq_of_beq_eq_true hl, optK_ok h⟩
    · obtain ⟨hl, h⟩ := iteK_one h
      obtain ⟨e1, e2⟩ := isAggA_cells ha
      rw [e1]
      refine ⟨(Nat.eq_of_beq_eq_true hl).symm, ?_⟩
      obtain ⟨n, bs⟩ := H
      change (getK bs b fun q => @Blk.rec (fun _ => Res) (fun len cs => iteK (Nat.blt o len) (setK cs o v fun cs => setK bs b ⟨len, cs⟩ fun bs => k ⟨n, bs⟩) none) q) = some r at h
      rw [getK_eq] at h
      obtain ⟨⟨len, cs⟩, hb, h⟩ := optK_ok h
      obtain ⟨hl, h⟩ := iteK_one h
      rw [setK_eq, setK_eq] at h
      refine ⟨_, ?_, h⟩
      unfold Nat.blt at hl
      simp only [storeA, hb, List.length_cons, List.length_nil, List.all_cons, List.all_nil, e2, Bool.and_self, Bool.and_true, decide_eq_true_eq]
      rw [if_pos (by rw [Nat.ble_eq] at hl; omega)]
      rfl
  · cases h
theorem newK_eq (len : Nat) (cells : Tr AV) (H : AH) (k : Nat → AH → Res) : newK len cells H k = k H.n ⟨H.n + 1, H.bs.set H.n ⟨len, cells⟩⟩ := by
  obtain ⟨n, bs⟩ := H
  show (setK bs n ⟨len, cells⟩ fun bs => finN (Nat.succ n) fun m => k n ⟨m, bs⟩) = _
  rw [setK_eq, finN_eq]
theorem newL_ok {l : List AV} {H : AH} {k : Nat → AH → Res} {r : Ext × AV × AH} (h : newL l H k = some r) : ∃ H', H.new l = some H' ∧ k H.n H' = some r := by
  unfold newL at h
  obtain ⟨ha, h⟩ := iteK_one h
  rw [finN_eq, putK_eq, newK_eq] at h
  exact ⟨_, by rw [AH.new, if_pos ha], h⟩
end Go.Proofs.YteopodohghnokaaGreatDoor.Ex
end
section
namespace Go.Proofs.YteopodohghnokaaGreatDoor.Ex
open Go
set_option linter.unusedVariables false
set_option linter.unusedSimpArgs false

theorem blt_lt {a b : Nat} (h : Nat.blt a b = true) : a < b := by
  unfold Nat.blt at h
  rw [Nat.ble_eq] at h
  omega
theorem compOpd_ok {F : NF} {G : Fr} (hF : RF F G) {x : Operand} {c : COpd} (h : compOpd x = some c) : opA G x = some (opdV F c) := by
  cases x with
  | tmp t =>
    change (bif Nat.blt t 512 then some (COpd.t t) else none) = some c at h
    cases hb : Nat.blt t 512 with
    | false => rw [hb] at h; cases h
    | true =>
      rw [hb] at h
      cases h
      show some (tmpA G t) = some (look F t)
      rw [hF t (blt_lt hb)]
  | const v =>
    simp only [compOpd, Option.map_eq_some_iff] at h
    obtain ⟨a, h, rfl⟩ := h
    exact h
  | global g => cases h; rfl
  | func f => cases h; rfl
theorem absV_nil {v : Value} (h : absV v = some .nilIface) : v = .nilIface := by
  unfold absV at h
  split at h <;> first | rfl | (simp at h; done)
theorem absC_nil {v : Value} (h : absC v = some .nilIface) : v = .nilIface := by
  unfold absC at h
  split at h
  · rename_i x hx
    simp only [Option.some.injEq] at h
    subst h
    exact absV_nil hx
  · split at h
    · split at h
      · simp at h
      · cases h
    · cases h
theorem nilB_none {E : Env} {op : BinOp} {t : TypeId} {G : Fr} {x y : Operand} {a b : AV} (hn : (isNilK x || isNilK y) = false) (hx : opA G x = some a) (hy : opA G y = some b) : nilB E op t x y a b = none := by
  rw [Bool.or_eq_false_iff] at hn
  unfold nilB
  split
  · have key : ∀ {z : Operand}, isNilK z = false → opA G z = some .nilIface → isK z = false := fun {z} h1 h2 => by
      cases z with
      | const v =>
        rw [absC_nil h2] at h1
        cases h1
      | _ => rfl
    rw [key hn.1 hx, key hn.2 hy]
    rfl
  · rfl
theorem compOpds_ok {F : NF} {G : Fr} (hF : RF F G) : ∀ {l : List Operand} {cs : List COpd}, compOpds l = some cs → opsA G l = some (cs.map (opdV F))
  | [], cs, h => by cases h; rfl
  | x :: l, cs, h => by
    simp only [compOpds] at h
    cases hx : compOpd x with
    | none => rw [hx] at h; cases h
    | some a =>
      cases hl : compOpds l with
      | none => rw [hx, hl] at h; cases h
      | some r =>
        rw [hx, hl] at h
        cases h
        simp only [opsA, compOpd_ok hF hx, compOpds_ok hF hl, List.map_cons]
theorem compParts_ok {F : NF} {G : Fr} (hF : RF F G) : ∀ {l : List (Nat × Operand)} {cs : List COpd}, compOpds (l.map (·.2)) = some cs → partsA G l = some (pairs (l.map (·.1)) (cs.map (opdV F)))
  | [], cs, h => by cases h; rfl
  | (j, x) :: l, cs, h => by
    simp only [compOpds, List.map_cons] at h
    cases hx : compOpd x with
    | none => rw [hx] at h; cases h
    | some a =>
      cases hl : compOpds (l.map (·.2)) with
      | none => rw [hx, hl] at h; cases h
      | some r =>
        rw [hx, hl] at h
        cases h
        simp only [partsA, compOpd_ok hF hx, compParts_ok hF hl, List.map_cons, pairs]
theorem compOO_ok {F : NF} {G : Fr} (hF : RF F G) {x : Option Operand} {c : Option COpd} (h : compOO x = some c) : optA G x = some (c.map (opdV F)) := by
  cases x with
  | none => cases h; rfl
  | some x =>
    simp only [compOO, Option.map_eq_some_iff] at h
    obtain ⟨a, h, rfl⟩ := h
    simp only [optA, compOpd_ok hF h, Option.map_some]

/-! ### Numbers -/
theorem kindNo_eq {k k' : IntKind} (h : Nat.beq (kindNo k) (kindNo k') = true) : k = k' := by
  cases k <;> cases k' <;> first | rfl | cases h
theorem capOf_high (k : IntKind) : (capOf k : Int) = highOf k := by cases k <;> rfl
theorem lowOf_le (k : IntKind) : lowOf k ≤ 0 := by cases k <;> simp [lowOf]
theorem wrapF_cap {k : IntKind} {n : Nat} (h : Nat.ble n (capOf k) = true) : wrapF k (.ofNat n) = .ofNat n := by
  rw [Nat.ble_eq] at h
  unfold wrapF
  have h1 := lowOf_le k
  have h2 := capOf_high k
  have : inKind k (.ofNat n) = true := by
    unfold inKind
    rw [decide_eq_true (show lowOf k ≤ Int.ofNat n by rw [Int.ofNat_eq_natCast]; omega), decide_eq_true (show Int.ofNat n ≤ highOf k by rw [Int.ofNat_eq_natCast]; omega)]
    rfl
  rw [this]
  rfl
theorem intCase_ok {a b : Int} {k : Nat → Nat → Res} {no : Res} {r : Ext × AV × AH} (h : intCase a b k no = some r) : (∃ m n, a = .ofNat m ∧ b = .ofNat n ∧ k m n = some r) ∨ no = some r := by
  cases a with
  | ofNat m =>
    cases b with
    | ofNat n => exact .inl ⟨m, n, rfl, rfl, h⟩
    | negSucc n => exact .inr h
  | negSucc m => exact .inr h
theorem finI_ok {k : IntKind} {n : Nat} {c : KA} {no : Res} {r : Ext × AV × AH} (h : finI k n c no = some r) : (wrapF k (.ofNat n) = .ofNat n ∧ c (.int k (.ofNat n)) = some r) ∨ no = some r := by
  unfold finI at h
  replace h := iteK_ok h
  rcases h with ⟨hc, h⟩ | ⟨hc, h⟩
  · rw [finN_eq] at h
    exact .inl ⟨wrapF_cap hc, h⟩
  · exact .inr h
theorem beq_nat {m n : Nat} : ((Int.ofNat m) == (Int.ofNat n)) = Nat.beq m n := by
  cases h : Nat.beq m n with
  | true => rw [Nat.eq_of_beq_eq_true h]; simp
  | false =>
    simp only [beq_eq_false_iff_ne, ne_eq, Int.ofNat_eq_natCast]
    intro e
    have : m = n := by omega
    subst this
    rw [Nat.beq_refl] at h
    cases h
theorem lt_nat {m n : Nat} : decide (Int.ofNat m < Int.ofNat n) = Nat.blt m n := by
  unfold Nat.blt
  rw [ble_lt]
  congr 1
  simp only [Int.ofNat_eq_natCast, eq_iff_iff]
  omega
theorem le_nat {m n : Nat} : decide (Int.ofNat m ≤ Int.ofNat n) = Nat.ble m n := by
  rw [ble_lt]
  congr 1
  simp only [Int.ofNat_eq_natCast, eq_iff_iff]
  omega
theorem iop_ok {op : BinOp} {k : IntKind} {m n : Nat} {c : KA} {no : Res} {r : Ext × AV × AH} (h : (iopOf op).run k m n c no = some r) : (∃ v, isShift op = false ∧ intOp op k (.ofNat m) (.ofNat n) = some v ∧ c v = some r) ∨ no = some r := by
  cases op <;> try exact .inr h
  case add =>
    replace h := finI_ok (n := m + n) h
    rcases h with ⟨e, h⟩ | h
    · refine .inl ⟨_, rfl, ?_, h⟩
      show some (AV.int k (wrapF k (Int.ofNat m + Int.ofNat n))) = _
      rw [show Int.ofNat m + Int.ofNat n = Int.ofNat (m + n) from rfl, e]
    · exact .inr h
  case sub =>
    replace h := iteK_ok h
    rcases h with ⟨hc, h⟩ | ⟨hc, h⟩
    · replace h := finI_ok (n := m - n) h
      rcases h with ⟨e, h⟩ | h
      · refine .inl ⟨_, rfl, ?_, h⟩
        show some (AV.int k (wrapF k (Int.ofNat m - Int.ofNat n))) = _
        rw [Nat.ble_eq] at hc
        rw [show Int.ofNat m - Int.ofNat n = Int.ofNat (m - n) by simp only [Int.ofNat_eq_natCast]; omega, e]
      · exact .inr h
    · exact .inr h
  case mul =>
    replace h := finI_ok (n := m * n) h
    rcases h with ⟨e, h⟩ | h
    · refine .inl ⟨_, rfl, ?_, h⟩
      show some (AV.int k (wrapF k (Int.ofNat m * Int.ofNat n))) = _
      rw [show Int.ofNat m * Int.ofNat n = Int.ofNat (m * n) from rfl, e]
    · exact .inr h
  case eql =>
    change boolK (Nat.beq m n) c = some r at h
    rw [boolK_eq, ← beq_nat] at h
    exact .inl ⟨_, rfl, rfl, h⟩
  case neq =>
    change iteK (Nat.beq m n) (c (.bool false)) (c (.bool true)) = some r at h
    refine .inl ⟨.bool (!(Int.ofNat m == Int.ofNat n)), rfl, rfl, ?_⟩
    rw [beq_nat]
    replace h := iteK_ok h
    rcases h with ⟨hc, h⟩ | ⟨hc, h⟩
    · rw [hc]; exact h
    · rw [hc]; exact h
  case lss =>
    change boolK (Nat.blt m n) c = some r at h
    rw [boolK_eq, ← lt_nat] at h
    exact .inl ⟨_, rfl, rfl, h⟩
  case leq =>
    change boolK (Nat.ble m n) c = some r at h
    rw [boolK_eq, ← le_nat] at h
    exact .inl ⟨_, rfl, rfl, h⟩
  case gtr =>
    change boolK (Nat.blt n m) c = some r at h
    rw [boolK_eq, ← lt_nat] at h
    exact .inl ⟨_, rfl, rfl, h⟩
  case geq =>
    change boolK (Nat.ble n m) c = some r at h
    rw [boolK_eq, ← le_nat] at h
    exact .inl ⟨_, rfl, rfl, h⟩
theorem eqS_eq : ∀ (s t : List UInt8), eqS s t = (s == t)
  | [], [] => rfl
  | [], y :: t => rfl
  | x :: s, [] => rfl
  | x :: s, y :: t => by
    show @Bool.rec (fun _ => Bool) false (eqS s t) (Nat.beq x.toNat y.toNat) = ((x == y) && (s == t))
    rw [eqS_eq s t]
    cases h : Nat.beq x.toNat y.toNat with
    | true =>
      have : x = y := UInt8.toNat_inj.1 (Nat.eq_of_beq_eq_true h)
      subst this
      simp
    | false =>
      have : (x == y) = false := by
        simp only [beq_eq_false_iff_ne, ne_eq]
        intro e
        subst e
        rw [Nat.beq_refl] at h
        cases h
      rw [this]
      rfl
theorem catK_eq : ∀ (s t : List UInt8) (k : List UInt8 → Res), catK s t k = k (s ++ t)
  | [], t, k => rfl
  | x :: s, t, k => by
    show catK s t (fun l => k (x :: l)) = _
    rw [catK_eq s t]
    rfl
theorem nthS_eq : ∀ (s : List UInt8) (n : Nat), nthS s n = s[n]?
  | [], n => by simp [nthS]
  | x :: s, 0 => rfl
  | x :: s, n + 1 => by
    show nthS s n = _
    rw [nthS_eq s n]
    rfl
theorem sop_ok {op : BinOp} {s t : List UInt8} {c : KA} {no : Res} {r : Ext × AV × AH} (h : (sopOf op).run s t c no = some r) : (∃ v, strOp op s t = some v ∧ c v = some r) ∨ no = some r := by
  cases op <;> try exact .inr h
  case add =>
    replace h := iteK_ok h
    rcases h with ⟨hc, h⟩ | ⟨hc, h⟩
    · rw [catK_eq] at h
      rw [Nat.ble_eq] at hc
      exact .inl ⟨_, if_pos hc, h⟩
    · exact .inr h
  case eql =>
    change boolK (eqS s t) c = some r at h
    rw [boolK_eq, eqS_eq] at h
    exact .inl ⟨_, rfl, h⟩
  case neq =>
    change iteK (eqS s t) (c (.bool false)) (c (.bool true)) = some r at h
    rw [eqS_eq] at h
    refine .inl ⟨.bool (!(s == t)), rfl, ?_⟩
    replace h := iteK_ok h
    rcases h with ⟨hc, h⟩ | ⟨hc, h⟩
    · rw [hc]; exact h
    · rw [hc]; exact h
theorem binK_ok {E : Env} {op : BinOp} {t : TypeId} {x y : AV} {c : KA} {slow : Res} {r : Ext × AV × AH} (h : binK (iopOf op).run (sopOf op).run x y c slow = some r) (hs : slow = some r → ∃ v, binA E op t x y = some v ∧ c v = some r) : ∃ v, binA E op t x y = some v ∧ c v = some r := by
  unfold binK at h
  replace h := ifInt_ok h
  rcases h with ⟨k, a, rfl, h⟩ | h
  · replace h := ifInt_ok h
    rcases h with ⟨k', b, rfl, h⟩ | h
    · replace h := iteK_ok h
      rcases h with ⟨hk, h⟩ | ⟨hk, h⟩
      · replace h := intCase_ok h
        rcases h with ⟨m, n, rfl, rfl, h⟩ | h
        · replace h := iop_ok h
          rcases h with ⟨v, _, h1, h⟩ | h
          · refine ⟨v, ?_, h⟩
            have := kindNo_eq hk
            subst this
            simp only [binA, decide_true, Bool.or_true, if_true]
            exact h1
          · exact hs h
        · exact hs h
      · exact hs h
    · exact hs h
  · replace h := ifStr_ok h
    rcases h with ⟨s, rfl, h⟩ | h
    · replace h := ifStr_ok h
      rcases h with ⟨t', rfl, h⟩ | h
      · replace h := sop_ok h
        rcases h with ⟨v, h1, h⟩ | h
        · exact ⟨v, h1, h⟩
        · exact hs h
      · exact hs h
    · exact hs h

/-! ### Operations -/
theorem finK_val (call : CallK) (w : AV → NF → (NF → Res) → Res) (F : NF) (v : AV) (H : AH) (k : KN) : finK call w F (.val v H) k = w v F fun F => k F H := rfl
theorem genOf_ok {o : Op} {c : CO} (h : genOf o = some c) : c = .gen o (readsOf o) ∧ ∀ t ∈ readsOf o, t < 512 := by
  unfold genOf at h
  cases hb : (readsOf o).all (Nat.blt · 512) with
  | false => rw [hb] at h; cases h
  | true =>
    rw [hb] at h
    cases h
    exact ⟨rfl, fun t ht => blt_lt (List.all_eq_true.1 hb t ht)⟩
theorem miniF_ok : ∀ (l : List Nat) (F : NF) (t : Tr AV) (k : Tr AV → Res) (r : Ext × AV × AH), miniF l F t k = some r → ∃ t', k t' = some r ∧ (∀ i ∈ l, tmpA t' i = look F i) ∧ ∀ i, i ∉ l → tmpA t' i = tmpA t i
  | [], F, t, k, r, h => ⟨t, h, fun i hi => (by cases hi), fun i _ => rfl⟩
  | j :: l, F, t, k, r, h => by
    change (slotOf j).get F (fun v => setK t j v fun t => miniF l F t k) = some r at h
    rw [slot_get, setK_eq] at h
    obtain ⟨t', h1, h2, h3⟩ := miniF_ok l F _ k r h
    refine ⟨t', h1, fun i hi => ?_, fun i hi => ?_⟩
    · by_cases hil : i ∈ l
      · exact h2 i hil
      · have : i = j := by
          rcases List.mem_cons.1 hi with e | e
          · exact e
          · exact absurd e hil
        subst this
        rw [h3 i hil, tmpA_set, if_pos rfl]
    · rw [h3 i (fun e => hi (List.mem_cons_of_mem _ e)), tmpA_set, if_neg (fun e => hi (by rw [e]; exact List.mem_cons_self ..))]

theorem gen_ok {E : Env} {d : Option Nat} {call : CallK} {F : NF} {G : Fr} {H : AH} {k : KN} {r : Ext × AV × AH} {o : Op} {c : CO} (hc : genOf o = some c) (hF : RF F G) (h : (semO (wrOf d).run c).run ⟨E, call⟩ F H k = some r) : ∃ R, exOp E G o H = some R ∧ finK call (wrOf d).run F R k = some r := by
  obtain ⟨rfl, hr⟩ := genOf_ok hc
  change miniF (readsOf o) F .nil (fun G => optK (exOp E G o H) fun r => finK call (wrOf d).run F r k) = some r at h
  obtain ⟨t', h, h1, h2⟩ := miniF_ok _ _ _ _ _ h
  obtain ⟨R, hR, h⟩ := optK_ok h
  have : exOp E t' o H = exOp E G o H := exOp_reads (fun t ht => by rw [h1 t ht, hF t (hr t ht)]) H
  rw [this] at hR
  exact ⟨R, hR, h⟩
section
variable {E : Env} {d : Option Nat} {call : CallK} {F : NF} {G : Fr} {H : AH} {k : KN} {r : Ext × AV × AH}
theorem vR_ok {v : AV} (h : (wrOf d).run v F (fun F => k F H) = some r) : ∃ R, vR H (some v) = some R ∧ finK call (wrOf d).run F R k = some r := ⟨_, rfl, h⟩
theorem semO_ok {o : Op} {c : CO} (hc : compO E.ty o = some c) (hF : RF F G) (h : (semO (wrOf d).run c).run ⟨E, call⟩ F H k = some r) : ∃ R, exOp E G o H = some R ∧ finK call (wrOf d).run F R k = some r := by
  cases o
  case move x =>
    simp only [compO, Option.map_eq_some_iff] at hc
    obtain ⟨x', hx, rfl⟩ := hc
    change (rdOf x').run F (fun v => (wrOf d).run v F fun F => k F H) = some r at h
    rw [rd_eq] at h
    show ∃ R, vR H (opA G x) = some R ∧ _
    rw [compOpd_ok hF hx]
    exact vR_ok h
  case assign x =>
    simp only [compO, Option.map_eq_some_iff] at hc
    obtain ⟨x', hx, rfl⟩ := hc
    change (rdOf x').run F (fun v => (wrOf d).run v F fun F => k F H) = some r at h
    rw [rd_eq] at h
    show ∃ R, vR H (opA G x) = some R ∧ _
    rw [compOpd_ok hF hx]
    exact vR_ok h
  case pick a x y =>
    simp only [compO] at hc
    split at hc
    · rename_i a' x' y' ha hx hy
      cases hc
      change (rdOf a').run F (fun v => v.ifBool (fun t => @Bool.rec (fun _ => Res) ((rdOf y').run F fun v => (wrOf d).run v F fun F => k F H) ((rdOf x').run F fun v => (wrOf d).run v F fun F => k F H) t) none) = some r at h
      rw [rd_eq] at h
      replace h := ifBool_ok h
      rcases h with ⟨b, hb, h⟩ | h
      · show ∃ R, pickX G a x y H = some R ∧ _
        unfold pickX
        rw [compOpd_ok hF ha, hb]
        cases b
        · dsimp only at h
          rw [rd_eq] at h
          dsimp only
          rw [compOpd_ok hF hy]
          exact vR_ok h
        · dsimp only at h
          rw [rd_eq] at h
          dsimp only
          rw [compOpd_ok hF hx]
          exact vR_ok h
      · cases h
    · cases hc
  case load t a =>
    simp only [compO] at hc
    split at hc
    · rename_i i a' hi ha
      cases hc
      show ∃ R, loadX E G t a H = some R ∧ _
      unfold loadX
      rw [compOpd_ok hF ha]
      dsimp only
      cases hg : i.kind.isAgg
      · rw [hg] at h
        change (rdOf a').run F (fun p => loadK1 E t p H fun v => (wrOf d).run v F fun F => k F H) = some r at h
        rw [rd_eq] at h
        obtain ⟨v, hv, h⟩ := loadK1_ok hi hg h
        rw [hv]
        exact vR_ok h
      · rw [hg] at h
        change (rdOf a').run F (fun p => loadKn E t i.size p H fun v => (wrOf d).run v F fun F => k F H) = some r at h
        rw [rd_eq] at h
        obtain ⟨v, hv, h⟩ := loadKn_ok hi hg h
        rw [hv]
        exact vR_ok h
    · cases hc
  case store t a x =>
    simp only [compO] at hc
    split at hc
    · rename_i i a' x' hi ha hx
      cases hc
      show ∃ R, storeX E G t a x H = some R ∧ _
      unfold storeX
      change (rdOf a').run F (fun p => (rdOf x').run F fun v => storeK i.size p v H fun H => (wrOf d).run (.tup []) F fun F => k F H) = some r at h
      rw [rd_eq, rd_eq] at h
      obtain ⟨b, o, hp, hl, H', hs, h⟩ := storeK_ok h
      rw [compOpd_ok hF ha, compOpd_ok hF hx, hi, hp]
      simp only
      rw [if_pos hl, hs]
      exact ⟨_, rfl, h⟩
    · cases hc
  case binOp op t x y u =>
    simp only [compO] at hc
    split at hc
    · exact gen_ok hc hF h
    rename_i hnk
    split at hc
    · rename_i x' y' hx hy
      cases hc
      show ∃ R, binX E G op t x y H = some R ∧ _
      unfold binX
      change (rdOf x').run F (fun a => (rdOf y').run F fun b => binK (iopOf op).run (sopOf op).run a b (fun v => (wrOf d).run v F fun F => k F H) (optK (binA E op t a b) fun v => (wrOf d).run v F fun F => k F H)) = some r at h
      rw [rd_eq, rd_eq] at h
      obtain ⟨v, hv, h⟩ := binK_ok h optK_ok
      have hnb := nilB_none (E := E) (op := op) (t := t) hnk (compOpd_ok hF hx) (compOpd_ok hF hy)
      rw [compOpd_ok hF hx, compOpd_ok hF hy]
      simp only
      rw [hnb, hv]
      exact vR_ok h
    · cases hc
  case unOp op t x =>
    show ∃ R, unX E G op x H = some R ∧ _
    unfold unX
    have key : ∀ x', compOpd x = some x' → (rdOf x').run F (fun v => optK (unA E op v) fun v => (wrOf d).run v F fun F => k F H) = some r → ∃ R, (match opA G x with | some a => vR H (unA E op a) | none => none) = some R ∧ finK call (wrOf d).run F R k = some r := by
      intro x' hx h
      rw [rd_eq] at h
      rw [compOpd_ok hF hx]
      obtain ⟨v, hv, h⟩ := optK_ok h
      simp only
      rw [hv]
      exact vR_ok h
    cases op
    case not =>
      simp only [compO, Option.map_eq_some_iff] at hc
      obtain ⟨x', hx, rfl⟩ := hc
      change (rdOf x').run F (fun v => v.ifBool (fun t => @Bool.rec (fun _ => Res) ((wrOf d).run (.bool true) F fun F => k F H) ((wrOf d).run (.bool false) F fun F => k F H) t) none) = some r at h
      rw [rd_eq] at h
      rw [compOpd_ok hF hx]
      replace h := ifBool_ok h
      rcases h with ⟨b, hb, h⟩ | h
      · rw [hb]
        cases b
        · exact ⟨_, rfl, h⟩
        · exact ⟨_, rfl, h⟩
      · cases h
    all_goals
      simp only [compO, Option.map_eq_some_iff] at hc
      obtain ⟨x', hx, rfl⟩ := hc
      exact key x' hx h
  case fieldAddr t x f =>
    simp only [compO] at hc
    split at hc
    · rename_i q i x' hf hx
      have hf : fieldOf E t f = some (q, i) := hf
      cases hc
      show ∃ R, fieldAddrX E G t x f H = some R ∧ _
      unfold fieldAddrX
      change (rdOf x').run F (fun p => p.ifPtr (fun b o => finN (Nat.add o q) fun o => (wrOf d).run (.ptr b o) F fun F => k F H) none) = some r at h
      rw [rd_eq] at h
      rw [compOpd_ok hF hx]
      replace h := ifPtr_ok h
      rcases h with ⟨b, o, hp, h⟩ | h
      · rw [finN_eq] at h
        rw [hp]
        simp only
        rw [hf]
        exact ⟨_, rfl, h⟩
      · cases h
    · exact gen_ok hc hF h
  case indexAddr t x ix =>
    simp only [compO] at hc
    split at hc
    · rename_i i x' ix' hi hx hix
      split at hc
      · rename_i e hk
        split at hc
        · rename_i j hj
          cases hc
          show ∃ R, indexAddrX E G t x ix H = some R ∧ _
          unfold indexAddrX
          change (rdOf x').run F (fun a => (rdOf ix').run F fun i => a.ifSl (fun b o len e => i.ifInt (fun _ n => @Int.rec (fun _ => Res) (fun n => iteK (Nat.blt n len) (iteK (Nat.beq j.size e) (finN (Nat.add o (Nat.mul n e)) fun o => (wrOf d).run (.ptr b o) F fun F => k F H) none) none) (fun _ => none) n) none) none none) = some r at h
          rw [rd_eq, rd_eq] at h
          rw [hi, compOpd_ok hF hx, compOpd_ok hF hix]
          replace h := ifSl_ok h
          rcases h with ⟨b, o, len, es, full, hv, h⟩ | ⟨hv, h⟩ | h
          · replace h := ifInt_ok h
            rcases h with ⟨kk, n, hn, h⟩ | h
            · cases n with
              | negSucc n => cases h
              | ofNat n =>
                obtain ⟨hlt, h⟩ := iteK_one h
                obtain ⟨hes, h⟩ := iteK_one h
                rw [finN_eq] at h
                rw [hv, hn]
                simp only [natOf, hk, hj]
                rw [if_pos ⟨blt_lt hlt, Nat.eq_of_beq_eq_true hes⟩]
                exact ⟨_, rfl, h⟩
            · cases h
          · cases h
          · cases h
        · exact gen_ok hc hF h
      · exact gen_ok hc hF h
    · exact gen_ok hc hF h
  case index t x ix =>
    simp only [compO] at hc
    split at hc
    · rename_i i x' ix' hi hx hix
      split at hc
      · rename_i hk
        cases hc
        show ∃ R, indexX E G t x ix H = some R ∧ _
        unfold indexX
        change (rdOf x').run F (fun a => (rdOf ix').run F fun i => a.ifStr (fun s => i.ifInt (fun _ n => @Int.rec (fun _ => Res) (fun n => optK (nthS s n) fun c => finN c.toNat fun n => (wrOf d).run (.int .u8 (.ofNat n)) F fun F => k F H) (fun _ => none) n) none) none) = some r at h
        rw [rd_eq, rd_eq] at h
        rw [hi, compOpd_ok hF hx, compOpd_ok hF hix]
        replace h := ifStr_ok h
        rcases h with ⟨s, hv, h⟩ | h
        · replace h := ifInt_ok h
          rcases h with ⟨kk, n, hn, h⟩ | h
          · cases n with
            | negSucc n => cases h
            | ofNat n =>
              obtain ⟨c, hc, h⟩ := optK_ok h
              rw [finN_eq] at h
              rw [nthS_eq] at hc
              rw [hv, hn]
              simp only [natOf, hk, hc]
              exact ⟨_, rfl, h⟩
          · cases h
        · cases h
      · exact gen_ok hc hF h
    · exact gen_ok hc hF h
  case extract x j =>
    simp only [compO, Option.map_eq_some_iff] at hc
    obtain ⟨x', hx, rfl⟩ := hc
    change (rdOf x').run F (fun v => v.ifTup (fun l => optK (l[j]?) fun v => (wrOf d).run v F fun F => k F H) none) = some r at h
    rw [rd_eq] at h
    show ∃ R, extractX G x j H = some R ∧ _
    unfold extractX
    rw [compOpd_ok hF hx]
    replace h := ifTup_ok h
    rcases h with ⟨l, hl, h⟩ | h
    · rw [hl]
      obtain ⟨v, hv, h⟩ := optK_ok h
      simp only
      rw [hv]
      exact vR_ok h
    · cases h
  case box t x =>
    simp only [compO, Option.map_eq_some_iff] at hc
    obtain ⟨x', hx, rfl⟩ := hc
    change (rdOf x').run F (fun v => iteK (isAggA v) (newL v.cells H fun n H => (wrOf d).run (.ptr n 0) F fun F => k F H) (setK .nil 0 v fun t => newK 1 t H fun n H => (wrOf d).run (.ptr n 0) F fun F => k F H)) = some r at h
    rw [rd_eq] at h
    show ∃ R, boxX G x H = some R ∧ _
    unfold boxX
    rw [compOpd_ok hF hx]
    simp only [newR]
    replace h := iteK_ok h
    rcases h with ⟨ha, h⟩ | ⟨ha, h⟩
    · obtain ⟨H', hn, h⟩ := newL_ok h
      rw [hn]
      exact ⟨_, rfl, h⟩
    · obtain ⟨e1, e2⟩ := isAggA_cells ha
      rw [setK_eq, newK_eq] at h
      rw [e1, AH.new, if_pos (by simp [e2])]
      exact ⟨_, rfl, h⟩
  case alloc t =>
    simp only [compO] at hc
    split at hc
    · rename_i i hi
      split at hc
      · rename_i z hz
        cases hb : z.all okc with
        | false => rw [hb] at hc; cases hc
        | true =>
          rw [hb] at hc
          cases hc
          change newK z.length (Tr.nil.put 0 z) H (fun n H => (wrOf d).run (.ptr n 0) F fun F => k F H) = some r at h
          rw [newK_eq] at h
          show ∃ R, allocX E t H = some R ∧ _
          simp only [allocX, hi, hz, newR, AH.new, hb, if_true]
          exact ⟨_, rfl, h⟩
      · cases hc
    · cases hc
  case makeFunc f first cap =>
    simp only [compO] at hc
    split at hc
    · rename_i f
      split at hc
      · rename_i a b ha hb
        cases hc
        change (rdsOf a).run F (fun a => (rdsOf b).run F fun b => (wrOf d).run (.func f a b) F fun F => k F H) = some r at h
        rw [rds_eq, rds_eq] at h
        show ∃ R, funcX G f first.toList cap.toList H = some R ∧ _
        unfold funcX
        rw [compOpds_ok hF ha, compOpds_ok hF hb]
        exact ⟨_, rfl, h⟩
      · cases hc
    · cases hc
  case buildSlice t len ps =>
    simp only [compO] at hc
    split at hc
    · rename_i i hi
      split at hc
      · rename_i e hk
        split at hc
        · rename_i j hj
          split at hc
          · rename_i z l hz hl
            cases hb : (Nat.beq z.length j.size && Nat.ble (len * j.size) 16777216) with
            | false => rw [hb] at hc; cases hc
            | true =>
              rw [hb] at hc
              cases hc
              rw [Bool.and_eq_true] at hb
              change (rdsOf l).run F (fun vs => optK (placeS j.size (pairs (ps.toList.map (·.1)) vs)) fun l => optK (fillA (replA z len) l) fun cs => newL cs H fun n H => (wrOf d).run (.slice n 0 len j.size true) F fun F => k F H) = some r at h
              rw [rds_eq] at h
              obtain ⟨l', h1, h⟩ := optK_ok h
              obtain ⟨cs, h2, h⟩ := optK_ok h
              obtain ⟨H', h3, h⟩ := newL_ok h
              show ∃ R, buildSliceX E G t len ps.toList H = some R ∧ _
              simp only [buildSliceX, hi, hk, hj, hz, compParts_ok hF hl]
              rw [if_pos ⟨Nat.eq_of_beq_eq_true hb.1, by have := hb.2; rwa [Nat.ble_eq] at this⟩, h1]
              simp only
              rw [h2]
              simp only [newR]
              rw [h3]
              exact ⟨_, rfl, h⟩
          · cases hc
        · cases hc
      · cases hc
    · cases hc
  case build t ps =>
    simp only [compO] at hc
    split at hc
    · rename_i i hi
      split at hc
      · rename_i fs hk
        split at hc
        · rename_i z l hz hl
          cases hc
          change (rdsOf l).run F (fun vs => optK (placeA E fs (pairs (ps.toList.map (·.1)) vs)) fun l => optK (fillA z l) fun cs => (wrOf d).run (.agg cs) F fun F => k F H) = some r at h
          rw [rds_eq] at h
          obtain ⟨l', h1, h⟩ := optK_ok h
          obtain ⟨cs, h2, h⟩ := optK_ok h
          show ∃ R, buildX E G t ps.toList H = some R ∧ _
          simp only [buildX, hi, hk, hz, compParts_ok hF hl, TK.isAgg, if_true]
          rw [h1]
          simp only [fillR]
          rw [h2]
          exact ⟨_, rfl, h⟩
        · cases hc
      · exact gen_ok hc hF h
    · cases hc
  case slice t x lo hi mx =>
    simp only [compO] at hc
    split at hc
    · rename_i x' a b c hx ha hb hcc
      cases hc
      change (rdOf x').run F (fun v => (rdoOf a).run F fun l => (rdoOf b).run F fun h => (rdoOf c).run F fun m => optK (sliceA E t v l h m) fun v => (wrOf d).run v F fun F => k F H) = some r at h
      rw [rd_eq, rdo_eq, rdo_eq, rdo_eq] at h
      obtain ⟨v, hv, h⟩ := optK_ok h
      show ∃ R, sliceX E G t x lo hi mx H = some R ∧ _
      simp only [sliceX, compOpd_ok hF hx, compOO_ok hF ha, compOO_ok hF hb, compOO_ok hF hcc, hv]
      exact vR_ok h
    · cases hc
  case makeInterface t x =>
    simp only [compO] at hc
    split at hc
    · rename_i i x' hi hx
      have key : ∀ c', CO.ifc t x' = c' → c' = c → (∃ kk, i.kind = kk ∧ kk ≠ .iface) → ∃ R, ifaceX E G t x H = some R ∧ finK call (wrOf d).run F R k = some r := by
        rintro _ rfl rfl ⟨kk, hk, hne⟩
        change (rdOf x').run F (fun v => (wrOf d).run (.iface t v) F fun F => k F H) = some r at h
        rw [rd_eq] at h
        simp only [ifaceX, compOpd_ok hF hx, hi, hk]
        cases kk <;> first | exact absurd rfl hne | exact ⟨_, rfl, h⟩
      split at hc
      · cases hc
      · rename_i hne
        cases hc
        exact key _ rfl rfl ⟨_, rfl, hne⟩
    · cases hc
  case nilCheck x =>
    simp only [compO, Option.map_eq_some_iff] at hc
    obtain ⟨x', hx, rfl⟩ := hc
    change (rdOf x').run F (fun v => iteK (nilcB v) ((wrOf d).run v F fun F => k F H) none) = some r at h
    rw [rd_eq] at h
    obtain ⟨hv, h⟩ := iteK_one h
    show ∃ R, nilCheckX G x H = some R ∧ _
    simp only [nilCheckX, compOpd_ok hF hx]
    revert hv h
    generalize opdV F x' = v
    intro hv h
    cases v <;> first | exact ⟨_, rfl, h⟩ | cases hv
  case field t x f =>
    simp only [compO] at hc
    split at hc
    · rename_i q i x' hf hx
      have hf : fieldOf E t f = some (q, i) := hf
      cases hc
      change (rdOf x').run F (fun v => optK (match v with | .agg cs => partA i cs q | _ => none) fun v => (wrOf d).run v F fun F => k F H) = some r at h
      rw [rd_eq] at h
      obtain ⟨v, hv, h⟩ := optK_ok h
      show ∃ R, fieldX E G t x f H = some R ∧ _
      simp only [fieldX, compOpd_ok hF hx]
      revert hv
      generalize opdV F x' = u
      intro hv
      cases u <;> first | (simp only [hf]; rw [show partA i _ q = some v from hv]; exact vR_ok h) | cases hv
    · cases hc
  case convert s t x =>
    simp only [compO] at hc
    split at hc
    · rename_i si di x' hs ht hx
      show ∃ R, convX E G s t x H = some R ∧ _
      simp only [convX, compOpd_ok hF hx]
      split at hc
      · rename_i kk hk
        cases hc
        simp only [convA, hs, ht, hk]
        change (rdOf x').run F (fun v => v.ifInt (fun _ n => @Int.rec (fun _ => Res) (fun n => iteK (Nat.ble n (capOf kk)) ((wrOf d).run (.int kk (.ofNat n)) F fun F => k F H) (optK (convI E kk v H) fun r => finK (fun _ _ _ _ => none) (wrOf d).run F r k)) (fun _ => optK (convI E kk v H) fun r => finK (fun _ _ _ _ => none) (wrOf d).run F r k) n) (optK (convI E kk v H) fun r => finK (fun _ _ _ _ => none) (wrOf d).run F r k)) = some r at h
        rw [rd_eq] at h
        have slow : (optK (convI E kk (opdV F x') H) fun r => finK (fun _ _ _ _ => none) (wrOf d).run F r k) = some r → ∃ R, convI E kk (opdV F x') H = some R ∧ finK call (wrOf d).run F R k = some r := by
          intro h
          obtain ⟨R, hR, h⟩ := optK_ok h
          refine ⟨R, hR, ?_⟩
          cases R with
          | val v H' => exact h
          | skip H' => exact h
          | call f as H' => cases h
        replace h := ifInt_ok h
        rcases h with ⟨k0, n, hn, h⟩ | h
        · cases n with
          | negSucc n => exact slow h
          | ofNat n =>
            replace h := iteK_ok h
            rcases h with ⟨hle, h⟩ | ⟨hle, h⟩
            · rw [hn]
              exact ⟨.val (.int kk (.ofNat n)) H, by rw [convI, wrapF_cap hle], h⟩
            · exact slow h
        · exact slow h
      · cases hc
        change (rdOf x').run F (fun v => optK (convA E s t v H) fun r => finK (fun _ _ _ _ => none) (wrOf d).run F r k) = some r at h
        rw [rd_eq] at h
        obtain ⟨R, hR, h⟩ := optK_ok h
        refine ⟨R, hR, ?_⟩
        cases R with
        | val v H' => exact h
        | skip H' => exact h
        | call f as H' => cases h
    · cases hc
  case call c =>
    show ∃ R, callX E G c H = some R ∧ _
    simp only [compO] at hc
    split at hc
    · rename_i f hcal
      split at hc
      · rename_i g l hf hl
        cases hc
        change (rdsOf l).run F (fun as => memoK (call g as H endK) fun v H => (wrOf d).run v F fun F => k F H) = some r at h
        rw [rds_eq] at h
        simp only [callX, compOpds_ok hF hl, hcal, compOpd_ok hF hf, opdV, callA, List.nil_append, List.append_nil]
        exact ⟨_, rfl, h⟩
      · rename_i i l hf hl
        cases hc
        change (rdOf (.t i)).run F (fun fv => (rdsOf l).run F fun as => fv.ifFunc (fun f a b => memoK (call f (a ++ as ++ b) H endK) fun v H => (wrOf d).run v F fun F => k F H) none) = some r at h
        rw [rd_eq, rds_eq] at h
        simp only [callX, compOpds_ok hF hl, hcal, compOpd_ok hF hf]
        replace h := ifFunc_ok h
        rcases h with ⟨g, a, b, hv, h⟩ | h
        · rw [hv]
          exact ⟨_, rfl, h⟩
        · cases h
      · exact gen_ok (o := .call c) hc hF h
    · rename_i hcal
      split at hc
      · rename_i t x' ht hl
        split at hc
        · rename_i i hi
          split at hc
          · rename_i hk
            cases hc
            change (rdOf x').run F (fun v => v.ifStr (fun s => finN s.length fun n => (wrOf d).run (.int .i64 (.ofNat n)) F fun F => k F H) none) = some r at h
            rw [rd_eq] at h
            simp only [callX, compOpds_ok hF hl, hcal, builtinX, ht, List.map_cons, List.map_nil, lenA, hi, hk]
            replace h := ifStr_ok h
            rcases h with ⟨s, hv, h⟩ | h
            · rw [finN_eq] at h
              rw [hv]
              exact ⟨_, rfl, h⟩
            · cases h
          · rename_i e hk
            cases hc
            change (rdOf x').run F (fun v => v.ifSl (fun _ _ n _ => (wrOf d).run (.int .i64 (.ofNat n)) F fun F => k F H) ((wrOf d).run (.int .i64 (.ofNat 0)) F fun F => k F H) none) = some r at h
            rw [rd_eq] at h
            simp only [callX, compOpds_ok hF hl, hcal, builtinX, ht, List.map_cons, List.map_nil, lenA, hi, hk]
            replace h := ifSl_ok h
            rcases h with ⟨b, o, len, es, full, hv, h⟩ | ⟨hv, h⟩ | h
            · rw [hv]
              exact ⟨_, rfl, h⟩
            · rw [hv]
              exact ⟨_, rfl, h⟩
            · cases h
          · cases hc
        · cases hc
      · exact gen_ok (o := .call c) hc hF h
    · rename_i hcal
      split at hc
      · rename_i t u x' y' ht hl
        cases hc
        change (rdOf x').run F (fun a => (rdOf y').run F fun b => optK (appendA E t u a b H) fun r => finK (fun _ _ _ _ => none) (wrOf d).run F r k) = some r at h
        rw [rd_eq, rd_eq] at h
        obtain ⟨R, hR, h⟩ := optK_ok h
        simp only [callX, compOpds_ok hF hl, hcal, builtinX, ht, List.map_cons, List.map_nil]
        refine ⟨R, hR, ?_⟩
        cases R with
        | val v H' => exact h
        | skip H' => exact h
        | call f as H' => cases h
      · cases hc
    · exact gen_ok (o := .call c) hc hF h
  all_goals exact gen_ok hc hF h
end
end Go.Proofs.YteopodohghnokaaGreatDoor.Ex
end
