/- The statement's walk, whatever the acts. -/
import Derived.Test.YtallocndghjoeaaRuns
import Derived.Test.YtallocndghjoeaaRunz
import Derived.Lib.SmallJoins
namespace Go.Proofs.Ytallocndghjoeaa
open Go.RowKit Go.Proofs.YtallocndghjoeaaW.PrintWords
set_option linter.unusedVariables false

theorem law_runs {w : World} (room crash keep torn : Int) {v : Value} (l : List Ac) (h : AcsAt w v l) :
    Calls Try.prog 6 #[.agg #[.int .i64 room, .int .i64 crash, .int .i64 keep, .int .i64 torn], v] w fun e w' => e = .returned (.bool true) ∧ Below w.heap.size w w' := by
  rcases h with ⟨rfl, A, c, rfl⟩ | ⟨ab, ao, c, rfl, hab, hac⟩
  · exact runs_zero room crash keep torn A c w
  · rcases Nat.lt_or_ge 50 l.length with hl | hl
    · exact runs_many room crash keep torn _ _ c w hl
    · exact runs_some room crash keep torn ab ao c l w hl hab hac

theorem plan_open {H : Type} {enc : TypeId × Value → H} {w : World} {v : Value} {d : DataW H} {p : List MemPlace} (hs : ∃ cs, v = .agg cs ∧ cs.size = Try.prog.cellsOf 25) (h : DataW.Trod enc Try.prog w 0 (fun _ => true) true 25 v d p) :
    ∃ a b c e : Int, v = .agg #[.int .i64 a, .int .i64 b, .int .i64 c, .int .i64 e] := by
  obtain ⟨fuel, hf⟩ := h
  obtain ⟨cs, rfl, hcs⟩ := hs
  obtain ⟨ys, n', rfl, _, hl, hyl, hg⟩ := DataW.trod_struct Try.underlying25 hf
  have e25 : Try.prog.cellsOf 25 = 4 := by kernel_rfl
  have e3 : Try.prog.cellsOf 3 = 1 := by kernel_rfl
  rw [e25] at hcs
  obtain ⟨c0, c1, c2, c3, rfl⟩ := Joins.array4 hcs
  have k0 := hg 0 { name := "Room", type := 3, offset := 0, embedded := false, tag := "", pkgPath := "", byteOffset := 0 } rfl
  have k1 := hg 1 { name := "Crash", type := 3, offset := 1, embedded := false, tag := "", pkgPath := "", byteOffset := 8 } rfl
  have k2 := hg 2 { name := "Keep", type := 3, offset := 2, embedded := false, tag := "", pkgPath := "", byteOffset := 16 } rfl
  have k3 := hg 3 { name := "Torn", type := 3, offset := 3, embedded := false, tag := "", pkgPath := "", byteOffset := 24 } rfl
  simp only [Value.cells, e3, List.drop_zero, List.drop_succ_cons, List.take_succ_cons, List.take_zero] at k0 k1 k2 k3
  have hy : ys.length = 4 := hyl
  obtain ⟨m0, rfl⟩ := int_cell (k0.trans (List.getElem?_eq_getElem (by omega)))
  obtain ⟨m1, rfl⟩ := int_cell (k1.trans (List.getElem?_eq_getElem (by omega)))
  obtain ⟨m2, rfl⟩ := int_cell (k2.trans (List.getElem?_eq_getElem (by omega)))
  obtain ⟨m3, rfl⟩ := int_cell (k3.trans (List.getElem?_eq_getElem (by omega)))
  exact ⟨_, _, _, _, rfl⟩
end Go.Proofs.Ytallocndghjoeaa
