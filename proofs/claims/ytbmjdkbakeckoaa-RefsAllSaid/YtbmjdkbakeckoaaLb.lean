/- A reference: two names with a dot between them: the walk of the program's reading. -/
import Derived.Test.YtbmjdkbakeckoaaLa
import Derived.Test.YtbmjdkbakeckoaaShelf
import Derived.Lib.Hide
namespace Go.Proofs.Ytbmjdkbakeckoaa
open Go.RowKit Go.Proofs.YtbmjdkbakeckoaaW.PrintWords Go.Proofs.Ytbmjdkbakeckoaa.PRefsAll
set_option linter.unusedVariables false
set_option linter.unusedSimpArgs false

def cutA (s : ByteArray) : ByteArray := ⟨(Lib.cut s.data.toList [46]).1.toArray⟩
def cutB (s : ByteArray) : ByteArray := ⟨(Lib.cut s.data.toList [46]).2.1.toArray⟩
def cutIs (s : ByteArray) : Bool := (Lib.cut s.data.toList [46]).2.2
def refP (s : ByteArray) : Bool := cutIs s && nameP (cutA s) && nameP (cutB s)

theorem cut_any (s : ByteArray) (m : Int) (w : World) (hm : w.cell? ⟨0, 0, none⟩ = some (.int .i64 m)) (hs : s.size ≤ 300) :
    Calls Try.prog 53 #[.string s, .string ⟨#[46]⟩] w fun e w' => e = .returned (.tuple #[.string (cutA s), .string (cutB s), .bool (cutIs s)]) ∧ ∃ n, w' = w.drewN n :=
  Try.strings_Cut s ⟨#[46]⟩ m w (by omega) hm

theorem below_drewN (w : World) (n : Nat) : Below w.heap.size w (w.drewN n) := Drawn0.below ⟨⟨n, rfl⟩⟩

theorem lexname_any (s : ByteArray) (w : World) : Calls Try.prog 56 #[.string s] w fun e w' => e = .returned (.bool (nameP s)) ∧ Below w.heap.size w w' :=
  lex_Name.calls 40 s (nameP s) w (name_lex s 40 (Nat.le_refl _))

theorem ref_any (s : ByteArray) (m : Int) (w : World) (hm : w.cell? ⟨0, 0, none⟩ = some (.int .i64 m)) (hs : s.size ≤ 300) :
    Calls Try.prog 54 #[.string s] w fun e w' => e = .returned (.bool (refP s)) ∧ Below w.heap.size w w' := by
  go_enter Try.func54, Try.ntmps54
  go_wp2_with fail
  refine (cut_any s m _ hm hs).mono ?_
  rintro e w1 ⟨rfl, n1, rfl⟩
  have hb1 := below_drewN w n1
  generalize w.drewN n1 = w1 at *
  obtain ⟨ci, hci⟩ : ∃ c, cutIs s = c := ⟨_, rfl⟩
  rw [hci]
  have HC := Lib.hid hci
  clear hci
  cases ci
  · go_wp2_with fail
    go_ret
    exact ⟨by unfold refP; rw [HC.out]; rfl, hb1⟩
  · go_wp2_with fail
    refine (lexname_any (cutA s) _).mono ?_
    rintro e w2 ⟨rfl, hb2⟩
    have hb := hb1.trans (hb2.mono hb1.size)
    obtain ⟨na, hna⟩ : ∃ c, nameP (cutA s) = c := ⟨_, rfl⟩
    rw [hna]
    have HN := Lib.hid hna
    clear hna
    cases na
    · go_wp2_with fail
      go_ret
      exact ⟨by unfold refP; rw [HC.out, HN.out]; rfl, hb⟩
    · go_wp2_with fail
      refine (lexname_any (cutB s) _).mono ?_
      rintro e w3 ⟨rfl, hb3⟩
      have hbb := hb.trans (hb3.mono hb.size)
      go_wp2_with fail
      go_ret
      exact ⟨by unfold refP; rw [HC.out, HN.out]; rfl, hbb⟩
end Go.Proofs.Ytbmjdkbakeckoaa
