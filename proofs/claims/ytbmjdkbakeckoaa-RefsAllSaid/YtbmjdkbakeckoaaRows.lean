/-
  No cell of these rows narrows 'for every input' (looked for: loops, veiled, ifaces, maps, wideKeys, modest, calm, conditions, laid).
  DERIVED. THE GIVEN ROWS OF THIS SEAT. 4 by the template 'for every input the law returns true; each argument reads behind the call as it read before'; 0 by the template 'total and deterministic' (their statements: YtbmjdkbakeckoaaTotals.lean).
  GIVEN WITH THE SEED: the statements are not yours to turn. If you find one false, say at which input.
  Laid BY PROGRAM, IN A SANDBOX (cutbox-rows.mjs): the forced cells as the released guide's own fill.sh prints them over the translation 2b60346c53d682bc… (all of the seat's roots in one cut). By AI agents, Wed Nov 11 2026. No macro, syntax, notation, axiom, sorry.
-/
import Derived.Test.YtbmjdkbakeckoaaChecked
import GoSem.Claim
import GoSem.ClaimJoined
import GoSem.ClaimMapViews
import Derived.JoinedTies
import Derived.KernelRfl
namespace Go.Proofs.Ytbmjdkbakeckoaa
/- THE CELL 'sum', in the pinned program and in every row, IS THE sha256 OF THE DUMP (.gsa) THAT YtbmjdkbakeckoaaProg.lean LOADS. Nothing in Lean hashes anything: it is a label: what it is worth is what the hold of that sum in a sandbox is worth. -/
noncomputable def Try.pinned : Pinned := { name := "ytbmjdkbakeckoaa", sum := "2b60346c53d682bcd2284369f56a45301f9024a754323da772e607f352935b71", checked := Try.checked }
namespace Rows
def none {H : Type} : Left H := { results := [], args := [] }

/-- 'doorkeeperlaw6.RefsAll': WHATEVER THE INPUT: true; the input reads as it did. -/
def refsAllSpec : ChangeSpec := { name := "refsAll", fn := fun _ => fun
  | [d1, d2] => { results := [.lit (.bool true)], args := [d1, d2] }
  | _ => none }
def refsAllRow : OpenClaim := { program := "ytbmjdkbakeckoaa", sum := "2b60346c53d682bcd2284369f56a45301f9024a754323da772e607f352935b71", func := "doorkeeper/doorkeeperlaw6.RefsAll", spec := "refsAll", inPlace := ["internal/bytealg.IndexByteString", "internal/bytealg.IndexString"], unfollowed := true, recurses := true, named := ["internal/bytealg.MaxLen"], apart := false }
def RefsAllSaid : Prop := refsAllRow.holds Try.pinned (OpenSpec.ofChange refsAllSpec)

/-- ITS FALSE NEIGHBOUR: 'it returns false'. Refute it at one input. -/
def refsAllWrong : ChangeSpec := { name := "refsAll", fn := fun _ => fun
  | [d1, d2] => { results := [.lit (.bool false)], args := [d1, d2] }
  | _ => none }
def RefsAllWrongFalsely : Prop := refsAllRow.holds Try.pinned (OpenSpec.ofChange refsAllWrong)

/-- 'doorkeeperlaw6.RefsMade': WHATEVER THE INPUT: true; the input reads as it did. -/
def refsMadeSpec : ChangeSpec := { name := "refsMade", fn := fun _ => fun
  | [d1, d2] => { results := [.lit (.bool true)], args := [d1, d2] }
  | _ => none }
def refsMadeRow : OpenClaim := { program := "ytbmjdkbakeckoaa", sum := "2b60346c53d682bcd2284369f56a45301f9024a754323da772e607f352935b71", func := "doorkeeper/doorkeeperlaw6.RefsMade", spec := "refsMade", inPlace := ["internal/bytealg.IndexByteString", "internal/bytealg.IndexString"], unfollowed := true, recurses := true, named := ["internal/bytealg.MaxLen"], apart := false }
def RefsMadeSaid : Prop := refsMadeRow.holds Try.pinned (OpenSpec.ofChange refsMadeSpec)

/-- ITS FALSE NEIGHBOUR: 'it returns false'. Refute it at one input. -/
def refsMadeWrong : ChangeSpec := { name := "refsMade", fn := fun _ => fun
  | [d1, d2] => { results := [.lit (.bool false)], args := [d1, d2] }
  | _ => none }
def RefsMadeWrongFalsely : Prop := refsMadeRow.holds Try.pinned (OpenSpec.ofChange refsMadeWrong)

/-- 'doorkeeperlaw6.RefsOrder': WHATEVER THE INPUT: true; the input reads as it did. -/
def refsOrderSpec : ChangeSpec := { name := "refsOrder", fn := fun _ => fun
  | [d1, d2] => { results := [.lit (.bool true)], args := [d1, d2] }
  | _ => none }
def refsOrderRow : OpenClaim := { program := "ytbmjdkbakeckoaa", sum := "2b60346c53d682bcd2284369f56a45301f9024a754323da772e607f352935b71", func := "doorkeeper/doorkeeperlaw6.RefsOrder", spec := "refsOrder", inPlace := ["internal/bytealg.IndexByteString", "internal/bytealg.IndexString"], unfollowed := true, recurses := true, named := ["internal/bytealg.MaxLen"], apart := false }
def RefsOrderSaid : Prop := refsOrderRow.holds Try.pinned (OpenSpec.ofChange refsOrderSpec)

/-- ITS FALSE NEIGHBOUR: 'it returns false'. Refute it at one input. -/
def refsOrderWrong : ChangeSpec := { name := "refsOrder", fn := fun _ => fun
  | [d1, d2] => { results := [.lit (.bool false)], args := [d1, d2] }
  | _ => none }
def RefsOrderWrongFalsely : Prop := refsOrderRow.holds Try.pinned (OpenSpec.ofChange refsOrderWrong)

/-- 'doorkeeperlaw6.RefsCircle': WHATEVER THE INPUT: true; the input reads as it did. -/
def refsCircleSpec : ChangeSpec := { name := "refsCircle", fn := fun _ => fun
  | [d1, d2] => { results := [.lit (.bool true)], args := [d1, d2] }
  | _ => none }
def refsCircleRow : OpenClaim := { program := "ytbmjdkbakeckoaa", sum := "2b60346c53d682bcd2284369f56a45301f9024a754323da772e607f352935b71", func := "doorkeeper/doorkeeperlaw6.RefsCircle", spec := "refsCircle", inPlace := ["internal/bytealg.IndexByteString", "internal/bytealg.IndexString"], unfollowed := true, recurses := true, named := ["internal/bytealg.MaxLen"], apart := false }
def RefsCircleSaid : Prop := refsCircleRow.holds Try.pinned (OpenSpec.ofChange refsCircleSpec)

/-- ITS FALSE NEIGHBOUR: 'it returns false'. Refute it at one input. -/
def refsCircleWrong : ChangeSpec := { name := "refsCircle", fn := fun _ => fun
  | [d1, d2] => { results := [.lit (.bool false)], args := [d1, d2] }
  | _ => none }
def RefsCircleWrongFalsely : Prop := refsCircleRow.holds Try.pinned (OpenSpec.ofChange refsCircleWrong)

/- THE SECOND FORM. 'bulk': how many values and letters a reading holds, each counted each time it is reached (what is shared counts as often as it is met; a slice's spare places count too). A statement '..UptoSaid' is the law's where the arguments, and the package variables that the reading takes, are together of bulk at most 1048576: NARROWER than '..Said'. Prove '..Said' where nothing that the law and all that it calls make is longer than what came in: it says more and counts as full. Else prove '..UptoSaid'. A law counts once. -/
mutual
def uptoBulk {H : Type} : DataW H → Nat
  | .lit (.string bytes) => bytes.length + 1
  | .lit _ => 1
  | .nil => 1
  | .ptr d => uptoBulk d + 1
  | .slice elems spare => uptoBulkAll elems + uptoBulkAll spare + 1
  | .agg parts => uptoBulkAll parts + 1
  | .iface _ d => uptoBulk d + 1
  | .map entries => uptoBulkEntries entries + 1
  | .held _ => 1
def uptoBulkAll {H : Type} : List (DataW H) → Nat
  | [] => 0
  | d :: r => uptoBulk d + uptoBulkAll r
def uptoBulkEntries {H : Type} : List (Lit × DataW H) → Nat
  | [] => 0
  | x :: r => uptoBulkEntry x + uptoBulkEntries r
def uptoBulkEntry {H : Type} : Lit × DataW H → Nat
  | (.string bytes, d) => bytes.length + uptoBulk d + 1
  | (_, d) => uptoBulk d + 1
 end
def uptoSmall : (H : Type) → List (DataW H) → Bool := fun _ ds => decide (uptoBulkAll ds ≤ 1048576)
def OpenSpec.upto (s : _root_.Go.ChangeSpec) : _root_.Go.OpenSpec := { _root_.Go.OpenSpec.ofChange s with cond := some uptoSmall }

/-- 'doorkeeperlaw6.RefsAll', WHERE WHAT IT READS IS OF BULK AT MOST 1048576: true; the input reads as it did. -/
def refsAllUptoRow : OpenClaim := { program := "ytbmjdkbakeckoaa", sum := "2b60346c53d682bcd2284369f56a45301f9024a754323da772e607f352935b71", func := "doorkeeper/doorkeeperlaw6.RefsAll", spec := "refsAll", inPlace := ["internal/bytealg.IndexByteString", "internal/bytealg.IndexString"], unfollowed := true, recurses := true, named := ["internal/bytealg.MaxLen"], apart := false, narrowed := true }
def RefsAllUptoSaid : Prop := refsAllUptoRow.holds Try.pinned (OpenSpec.upto refsAllSpec)

/-- 'doorkeeperlaw6.RefsMade', WHERE WHAT IT READS IS OF BULK AT MOST 1048576: true; the input reads as it did. -/
def refsMadeUptoRow : OpenClaim := { program := "ytbmjdkbakeckoaa", sum := "2b60346c53d682bcd2284369f56a45301f9024a754323da772e607f352935b71", func := "doorkeeper/doorkeeperlaw6.RefsMade", spec := "refsMade", inPlace := ["internal/bytealg.IndexByteString", "internal/bytealg.IndexString"], unfollowed := true, recurses := true, named := ["internal/bytealg.MaxLen"], apart := false, narrowed := true }
def RefsMadeUptoSaid : Prop := refsMadeUptoRow.holds Try.pinned (OpenSpec.upto refsMadeSpec)

/-- 'doorkeeperlaw6.RefsOrder', WHERE WHAT IT READS IS OF BULK AT MOST 1048576: true; the input reads as it did. -/
def refsOrderUptoRow : OpenClaim := { program := "ytbmjdkbakeckoaa", sum := "2b60346c53d682bcd2284369f56a45301f9024a754323da772e607f352935b71", func := "doorkeeper/doorkeeperlaw6.RefsOrder", spec := "refsOrder", inPlace := ["internal/bytealg.IndexByteString", "internal/bytealg.IndexString"], unfollowed := true, recurses := true, named := ["internal/bytealg.MaxLen"], apart := false, narrowed := true }
def RefsOrderUptoSaid : Prop := refsOrderUptoRow.holds Try.pinned (OpenSpec.upto refsOrderSpec)

/-- 'doorkeeperlaw6.RefsCircle', WHERE WHAT IT READS IS OF BULK AT MOST 1048576: true; the input reads as it did. -/
def refsCircleUptoRow : OpenClaim := { program := "ytbmjdkbakeckoaa", sum := "2b60346c53d682bcd2284369f56a45301f9024a754323da772e607f352935b71", func := "doorkeeper/doorkeeperlaw6.RefsCircle", spec := "refsCircle", inPlace := ["internal/bytealg.IndexByteString", "internal/bytealg.IndexString"], unfollowed := true, recurses := true, named := ["internal/bytealg.MaxLen"], apart := false, narrowed := true }
def RefsCircleUptoSaid : Prop := refsCircleUptoRow.holds Try.pinned (OpenSpec.upto refsCircleSpec)

end Rows
end Go.Proofs.Ytbmjdkbakeckoaa
