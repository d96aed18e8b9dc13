/- Package record on marks and steps of known names: run by the kernel. -/
import Derived.Test.YtfcfliclmjikkaaGreatDoorFj
import Derived.Test.YtfcfliclmjikkaaGreatDoorProg
import Derived.KernelRfl
namespace Go.Proofs.YtfcfliclmjikkaaGreatDoor
open Go Go.Proofs Go.Proofs.YtfcfliclmjikkaaGreatDoor.Ex
set_option maxRecDepth 1000000
/-- A number's digits (four of them), and the name of a mark. -/
def dgA (i : Nat) : List UInt8 := [UInt8.ofNat (48 + (1000 + i) / 1000 % 10), UInt8.ofNat (48 + (1000 + i) / 100 % 10), UInt8.ofNat (48 + (1000 + i) / 10 % 10), UInt8.ofNat (48 + (1000 + i) % 10)]
def nmA (i : Nat) : List UInt8 := 110 :: dgA i
def mkA (i : Nat) : AV := .agg [.str (nmA i), .str [], .int .i64 0, .int .i64 0, .int .i64 0, .int .i64 1]
def stA : AV := .agg [.int .i64 4, .str [120], .str [], .int .i64 0, .int .i64 0, .int .i64 0]
def isStr (s : List UInt8) : AV → Bool
  | .str t => decide (t = s)
  | _ => false
def isTrue : AV → Bool
  | .bool b => b
  | _ => false
def isShort : AV → Bool
  | .str t => Nat.ble t.length 1000
  | _ => false
def isOne : AV → Bool
  | .int k n => decide (k = .i64) && decide (n = 1)
  | _ => false
noncomputable def fns : Tr FI := mkFns 0 Tryz.prog.funcs.toList .nil
noncomputable def env : Env := envOf Tryz.prog .nil .nil (hookC 142 102 90)
noncomputable def isC (f : FuncId) (args : List AV) (p : AV → Bool) : Bool := fastIs (mkTys Tryz.prog 0 Tryz.prog.types.size .nil) fns env 100000 60 f args p
noncomputable def rowOk (i : Nat) : Bool := isC 17 [.int .i64 (1000 + i : Nat)] (isStr (dgA i)) && isC 19 [mkA i] isTrue && isC 36 [mkA i] isShort && (match i with
  | 0 => true
  | j + 1 => isC 39 [mkA (j + 1), mkA j] isOne)
end Go.Proofs.YtfcfliclmjikkaaGreatDoor
