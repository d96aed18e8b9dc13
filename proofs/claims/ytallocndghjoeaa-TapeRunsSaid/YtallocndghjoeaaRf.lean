/- Walks of the reference's tape: a fall. -/
import Derived.Test.YtallocndghjoeaaRe
import Derived.Test.YtallocndghjoeaaKeeps
namespace Go.Proofs.Ytallocndghjoeaa
open Go.RowKit Go.Proofs.YtallocndghjoeaaW.PrintWords
set_option linter.unusedVariables false
attribute [local go_sem] mx_zero mx_two

theorem ref_end {w : World} {b : Nat} {sv lv : Value} {st : TapeSt} (h : w.heap[b]? = some (.cells (refCells sv lv st) 52 (0, 0))) (x y : ByteArray) (r c k t : Int) (v : Value) :
    ((((((((w.setCell ⟨b, 0, none⟩ v).setCell ⟨b, 1, none⟩ (.slice none 0 0)).setCell ⟨b, 2, none⟩ (.int .i64 r)).setCell ⟨b, 3, none⟩ (.int .i64 c)).setCell ⟨b, 4, none⟩ (.int .i64 k)).setCell ⟨b, 5, none⟩ (.int .i64 t)).setCell ⟨b, 6, none⟩ (.int .i64 0)).setCell ⟨b, 7, none⟩ (.bool false)).heap[b]?
      = some (.cells (refCells v (.slice none 0 0) ⟨x, y, [], r, c, k, t, 0, false⟩) 52 (0, 0)) := by
  refine (blk_set (blk_set (blk_set (blk_set (blk_set (blk_set (blk_set (blk_set h 0 _) 1 _) 2 _) 3 _) 4 _) 5 _) 6 _) 7 _).trans ?_
  simp [refCells]

end Go.Proofs.Ytallocndghjoeaa
