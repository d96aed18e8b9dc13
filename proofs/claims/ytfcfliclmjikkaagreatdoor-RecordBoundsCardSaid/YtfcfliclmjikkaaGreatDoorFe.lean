/- The fast twin: regions that go by the plain runner; iterators. -/
import Derived.Test.YtfcfliclmjikkaaGreatDoorFd
namespace Go.Proofs.YtfcfliclmjikkaaGreatDoor.Ex
open Go
set_option linter.unusedVariables false
set_option linter.unusedSimpArgs false

/-- What a call gives, others give too, given room. -/
def Weak (c1 : CallF) (cf : Nat → CallF) : Prop := ∀ (f : FuncId) (args : List AV) (H : AH) (r : AV × AH), c1 f args H = some r → ∃ N, ∀ L, N ≤ L → cf L f args H = some r
theorem direct_weak {call : CallK} {cf : Nat → CallF} (hs : Sim call cf) : Weak (directF call) cf := fun f args H r h => by
  unfold directF at h
  split at h
  · rename_i e v H' he
    cases h
    obtain ⟨v', H'', N, h1, h2⟩ := hs _ _ _ _ _ he
    cases h2
    exact ⟨N, h1⟩
  · cases h

end Go.Proofs.YtfcfliclmjikkaaGreatDoor.Ex
