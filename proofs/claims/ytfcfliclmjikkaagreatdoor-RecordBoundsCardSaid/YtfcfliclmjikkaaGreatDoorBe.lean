/- Package record: rows of marks and of steps; are marks in their order. -/
import Derived.Test.YtfcfliclmjikkaaGreatDoorBd
import Derived.Test.YtfcfliclmjikkaaGreatDoorL
import Derived.WalkKit
import Derived.Lib.Hide
namespace Go.Proofs.YtfcfliclmjikkaaGreatDoor
open Go Go.Proofs
open Go.RowKit
set_option maxRecDepth 100000
set_option linter.unusedVariables false
set_option linter.unusedSimpArgs false
set_option maxHeartbeats 1000000

/-- k marks of known names, as a slice. -/
def MkAt (w : World) (v : Value) (k : Nat) : Prop := (v = .slice none 0 0 ∧ k = 0) ∨ ∃ g o cap, v = .slice (some ⟨g, o, none⟩) k cap ∧ g < w.heap.size ∧ ∀ i, i < k → w.cell? ⟨g, o + i * 6, none⟩ = some (.string ⟨(nmA i).toArray⟩) ∧ w.cell? ⟨g, o + i * 6 + 1, none⟩ = some (.string ByteArray.empty) ∧
  w.cell? ⟨g, o + i * 6 + 2, none⟩ = some (.int .i64 0) ∧ w.cell? ⟨g, o + i * 6 + 3, none⟩ = some (.int .i64 0) ∧ w.cell? ⟨g, o + i * 6 + 4, none⟩ = some (.int .i64 0) ∧ w.cell? ⟨g, o + i * 6 + 5, none⟩ = some (.int .i64 1)
/-- p steps, all alike, as a slice. -/
def StAt (w : World) (v : Value) (p : Nat) : Prop := (v = .slice none 0 0 ∧ p = 0) ∨ ∃ g o cap, v = .slice (some ⟨g, o, none⟩) p cap ∧ g < w.heap.size ∧ ∀ i, i < p → w.cell? ⟨g, o + i * 6, none⟩ = some (.int .i64 4) ∧ w.cell? ⟨g, o + i * 6 + 1, none⟩ = some (.string ⟨#[120]⟩) ∧
  w.cell? ⟨g, o + i * 6 + 2, none⟩ = some (.string ByteArray.empty) ∧ w.cell? ⟨g, o + i * 6 + 3, none⟩ = some (.int .i64 0) ∧ w.cell? ⟨g, o + i * 6 + 4, none⟩ = some (.int .i64 0) ∧ w.cell? ⟨g, o + i * 6 + 5, none⟩ = some (.int .i64 0)
theorem MkAt.below {w w' : World} {v : Value} {k : Nat} (h : MkAt w v k) (hb : Below w.heap.size w w') : MkAt w' v k := by
  rcases h with h | ⟨g, o, cap, h1, h2, h3⟩
  · exact .inl h
  · refine .inr ⟨g, o, cap, h1, Nat.lt_of_lt_of_le h2 hb.size, fun i hi => ?_⟩
    have hc : ∀ off, w'.cell? ⟨g, off, none⟩ = w.cell? ⟨g, off, none⟩ := fun off => hb.cell (p := ⟨g, off, none⟩) h2
    simp only [hc]
    exact h3 i hi
theorem StAt.below {w w' : World} {v : Value} {k : Nat} (h : StAt w v k) (hb : Below w.heap.size w w') : StAt w' v k := by
  rcases h with h | ⟨g, o, cap, h1, h2, h3⟩
  · exact .inl h
  · refine .inr ⟨g, o, cap, h1, Nat.lt_of_lt_of_le h2 hb.size, fun i hi => ?_⟩
    have hc : ∀ off, w'.cell? ⟨g, off, none⟩ = w.cell? ⟨g, off, none⟩ := fun off => hb.cell (p := ⟨g, off, none⟩) h2
    simp only [hc]
    exact h3 i hi
theorem MkAt.len {w : World} {v : Value} {k : Nat} (h : MkAt w v k) : ∃ A cap, v = .slice A k cap := by
  rcases h with ⟨rfl, rfl⟩ | ⟨g, o, cap, rfl, _⟩
  · exact ⟨none, 0, rfl⟩
  · exact ⟨_, _, rfl⟩
theorem StAt.len {w : World} {v : Value} {k : Nat} (h : StAt w v k) : ∃ A cap, v = .slice A k cap := by
  rcases h with ⟨rfl, rfl⟩ | ⟨g, o, cap, rfl, _⟩
  · exact ⟨none, 0, rfl⟩
  · exact ⟨_, _, rfl⟩

theorem sorted_any (v : Value) (k : Nat) (hk : k ≤ 260) (w : World) (hv : MkAt w v k) : Calls Tryz.prog 38 #[v, .func (.func 39) #[] #[]] w fun e w' => e = .returned (.bool true) ∧ Below w.heap.size w w' := by
  have HV := Lib.hid hv
  obtain ⟨A, cap, rfl⟩ := hv.len
  clear hv
  go_enter Tryz.func38, Tryz.ntmps38
  go_wp2_with fail
  go_loopw [5] (fun i wr => ∃ j : Int, -1 ≤ j ∧ j < k ∧ i = .int .i64 j ∧ Below w.heap.size w wr) (fun i _ => (intOf i).toNat)
  case atStart => exact ⟨(k : Int) - 1, by omega, by omega, by go_num, Below.refl _ _⟩
  case round =>
    obtain ⟨j, hj1, hj2, rfl, hb⟩ := hrel
    by_cases hlt : 0 < j
    · obtain ⟨m, rfl⟩ : ∃ m : Nat, j = ((m + 1 : Nat) : Int) := ⟨(j - 1).toNat, by omega⟩
      have hmk : m + 1 < k := by omega
      rcases HV.out with ⟨_, h0⟩ | ⟨g, o, cap', he, hg, hcells⟩
      · omega
      obtain rfl : A = some ⟨g, o, none⟩ := by injection he
      have hc : ∀ off, wr.cell? ⟨g, off, none⟩ = w.cell? ⟨g, off, none⟩ := fun off => hb.cell (p := ⟨g, off, none⟩) hg
      obtain ⟨a0, a1, a2, a3, a4, a5⟩ := hcells (m + 1) hmk
      obtain ⟨b0, b1, b2, b3, b4, b5⟩ := hcells m (by omega)
      rw [← hc] at a0 a1 a2 a3 a4 a5 b0 b1 b2 b3 b4 b5
      have hgr : g < wr.heap.size := Nat.lt_of_lt_of_le hg hb.size
      have e1 : ((m + 1 : Nat) : Int) - 1 = (m : Int) := by omega
      have HC := Lib.hid hcells
      have HB := Lib.hid hb
      clear hc hcells he hb
      go_wp2_with fail
      refine region_lay (by kernel_rfl) (by kernel_rfl) ?_
      repeat (go_big_quiet_step (first | (go_at_call 39; exact Calls.lay_of (cmp_calls (j := m) (by omega) _))))
      refine wpQuiet_nil ?_
      rintro _ ⟨zq, rfl⟩
      have hb2 := HB.out.trans ((wr.lay_below zq).mono HB.out.size)
      clear a0 a1 a2 a3 a4 a5 b0 b1 b2 b3 b4 b5
      go_wp2
      go_roundw
      case rel => exact ⟨(m : Int), by omega, by omega, by go_num, hb2⟩
      case measure => simp [intOf]
    · go_wp2
      go_ret
      exact ⟨rfl, hb⟩
end Go.Proofs.YtfcfliclmjikkaaGreatDoor
