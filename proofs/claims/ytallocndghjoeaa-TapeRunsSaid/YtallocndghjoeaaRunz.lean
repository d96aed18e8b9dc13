/- No act at all: two tapes are made, and nothing else is done. -/
import Derived.Test.YtallocndghjoeaaRh
import Derived.Deep.RegionHeld3
namespace Go.Proofs.Ytallocndghjoeaa
open Go.RowKit Go.Proofs.YtallocndghjoeaaW.PrintWords
set_option linter.unusedVariables false

theorem TapeAt.low {w : World} {base base' b : Nat} {row : Option Nat} {st : TapeSt} (hT : TapeAt w base b row st) (h : base' ≤ base) : TapeAt w base' b row st := by
  obtain ⟨lv, h1, h2, h3, h4⟩ := hT
  exact ⟨lv, h1, Nat.le_trans h h2, h3, own_weaken h4 h⟩
theorem RefAt.low {w : World} {base base' b : Nat} {row : Option Nat} {st : TapeSt} (hT : RefAt w base b row st) (h : base' ≤ base) : RefAt w base' b row st := by
  obtain ⟨sv, lv, h1, h2, h3, h4, h5⟩ := hT
  exact ⟨sv, lv, h1, Nat.le_trans h h2, h3, h4.mono h, own_weaken h5 h⟩

set_option maxRecDepth 100000 in
set_option maxHeartbeats 3200000 in
theorem runs_zero (room crash keep torn : Int) (A : Option Addr) (c : Nat) (w : World) :
    Calls Try.prog 6 #[.agg #[.int .i64 room, .int .i64 crash, .int .i64 keep, .int .i64 torn], .slice A 0 c] w fun e w' => e = .returned (.bool true) ∧ Below w.heap.size w w' := by
  have hPw := (Below.refl w.heap.size w).alloc (Nat.le_refl _) (Obj.cells #[Value.int IntKind.i64 room, Value.int IntKind.i64 crash, Value.int IntKind.i64 keep, Value.int IntKind.i64 torn] 25)
  have hPb := blk_new w (Obj.cells #[Value.int IntKind.i64 room, Value.int IntKind.i64 crash, Value.int IntKind.i64 keep, Value.int IntKind.i64 torn] 25)
  have HPw := Lib.hid hPw
  have HPb := Lib.hid hPb
  clear hPw hPb
  go_enter Try.func6, Try.ntmps6
  go_wp2_with fail
  have hp0 : (w.alloc (Obj.cells #[Value.int IntKind.i64 room, Value.int IntKind.i64 crash, Value.int IntKind.i64 keep, Value.int IntKind.i64 torn] 25)).cell? ⟨w.heap.size, 0, none⟩ = some (.int .i64 room) := blk_cell HPb.out 0
  have hp1 : (w.alloc (Obj.cells #[Value.int IntKind.i64 room, Value.int IntKind.i64 crash, Value.int IntKind.i64 keep, Value.int IntKind.i64 torn] 25)).cell? ⟨w.heap.size, 1, none⟩ = some (.int .i64 crash) := blk_cell HPb.out 1
  have hp2 : (w.alloc (Obj.cells #[Value.int IntKind.i64 room, Value.int IntKind.i64 crash, Value.int IntKind.i64 keep, Value.int IntKind.i64 torn] 25)).cell? ⟨w.heap.size, 2, none⟩ = some (.int .i64 keep) := blk_cell HPb.out 2
  have hp3 : (w.alloc (Obj.cells #[Value.int IntKind.i64 room, Value.int IntKind.i64 crash, Value.int IntKind.i64 keep, Value.int IntKind.i64 torn] 25)).cell? ⟨w.heap.size, 3, none⟩ = some (.int .i64 torn) := blk_cell HPb.out 3
  have hpz : w.heap.size < (w.alloc (Obj.cells #[Value.int IntKind.i64 room, Value.int IntKind.i64 crash, Value.int IntKind.i64 keep, Value.int IntKind.i64 torn] 25)).heap.size := blk_lt HPb.out
  generalize w.alloc (Obj.cells #[Value.int IntKind.i64 room, Value.int IntKind.i64 crash, Value.int IntKind.i64 keep, Value.int IntKind.i64 torn] 25) = w1 at *
  have HS := Lib.hid (show ∀ w', Below w1.heap.size w1 w' → w'.cell? ⟨w.heap.size, 0, none⟩ = some (.int .i64 room) ∧ w'.cell? ⟨w.heap.size, 1, none⟩ = some (.int .i64 crash) ∧ w'.cell? ⟨w.heap.size, 2, none⟩ = some (.int .i64 keep) ∧ w'.cell? ⟨w.heap.size, 3, none⟩ = some (.int .i64 torn) from fun w' h =>
    ⟨(h.cell (p := ⟨_, _, none⟩) hpz).trans hp0, (h.cell (p := ⟨_, _, none⟩) hpz).trans hp1, (h.cell (p := ⟨_, _, none⟩) hpz).trans hp2, (h.cell (p := ⟨_, _, none⟩) hpz).trans hp3⟩)
  have hbd : Below w1.heap.size w1 w1.drew := (Below.refl _ _).drew
  go_region_held3 (fun w' => w'.cell? ⟨w.heap.size, 0, none⟩ = some (.int .i64 room) ∧ w'.cell? ⟨w.heap.size, 1, none⟩ = some (.int .i64 crash) ∧ w'.cell? ⟨w.heap.size, 2, none⟩ = some (.int .i64 keep) ∧ w'.cell? ⟨w.heap.size, 3, none⟩ = some (.int .i64 torn))
    (first | exact HS.out _ hbd | exact HS.out _ hb2 | exact HS.out _ hb3)
    (first | (go_at_call 8; refine (new_any room crash keep torn _).mono ?_; rintro e w2 ⟨b, rfl, hT2, hq2⟩; have hb2 : Below w1.heap.size w1 w2 := hbd.trans hq2) | (go_at_call 20; refine (rnew_any room crash keep torn _).mono ?_; rintro e w3 ⟨rb, rfl, hR3, hq3⟩; have hb3 : Below w1.heap.size w1 w3 := hb2.trans (hq3.mono hb2.size)))
  have hLo : w.heap.size ≤ w1.heap.size := Nat.le_of_lt hpz
  have hT3 : TapeAt w3 w.heap.size b none (newSt room crash keep torn) := (hT2.below hq3).low hLo
  have hR3' : RefAt w3 w.heap.size rb none (newSt room crash keep torn) := hR3.low (Nat.le_trans hLo hb2.size)
  have hG3 := gd_new room crash keep torn
  have hb03 : Below w.heap.size w w3 := HPw.out.trans (hb3.mono hLo)
  clear hR3 hT2 hq2 hq3 hb2 hb3 hbd hp0 hp1 hp2 hp3
  clear hT3 hR3' hG3
  go_wp2_with fail
  go_loopw [7] (fun iv wr => iv = .int .i64 0 ∧ Below w.heap.size w wr) (fun _ _ => 0)
  case atStart => exact ⟨rfl, hb03⟩
  case round =>
    obtain ⟨rfl, hb⟩ := hrel
    clear hb03
    go_wp2_with fail
    refine (awake_any _).mono ?_
    rintro e w9 ⟨rfl, hb9⟩
    have hbb := hb.trans (hb9.mono hb.size)
    go_wp2
    go_ret
    exact ⟨rfl, hbb⟩
end Go.Proofs.Ytallocndghjoeaa
