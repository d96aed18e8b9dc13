/- Regions that draw their order, whose operations only read and whose callees leave all that was there: one walk of the order of the text; a tail of operations in one forced order may write. -/
import Derived.Below
import Derived.WalkKit
import Derived.BigQuiet
import Derived.Deep.Quiet
import Derived.StillTail
import Derived.Test.YtlbnfcpdmngjkaaGreatDoorXg
import Derived.RecoverIn
import Derived.Test.YtlbnfcpdmngjkaaGreatDoorProg
import Derived.KernelRfl
import Derived.LoopN
import Derived.Laws.IdiomRangeMap
import Derived.Lib.Hide
import Derived.Shelf.RegionOpenPlain
import Derived.Lib.Walk
import Derived.Lib.SliceRun
import Derived.Lib.JoinLaws
import Derived.Lib.AppendZeros
import Derived.Lib.AppendZerosOnto
import Derived.Lib.Overlaps
import Derived.Laws.Externs
import Derived.Laws.IdiomCopy
import Derived.Laws.NewBlocks
import Derived.Deep.RegionLaw
import Derived.Laws.AppendOwn
section
namespace Go
open Go.RowKit

open Classical in
/-- A later world in which all that was there is as it was; else the world itself. -/
noncomputable def World.lay (w z : World) : World := if Below w.heap.size w z then z else w

theorem World.lay_below (w z : World) : Below w.heap.size w (w.lay z) := by
  unfold World.lay
  split
  · assumption
  · exact Below.refl _ _
theorem World.lay_of {w z : World} (h : Below w.heap.size w z) : w.lay z = z := by
  unfold World.lay
  rw [if_pos h]
@[go_sem] theorem World.cell?_lay (w z : World) (a : Addr) (h : a.block < w.heap.size) : (w.lay z).cell? a = w.cell? a := (w.lay_below z).cell h
@[go_sem] theorem World.frozen?_lay (w z : World) (a : Addr) (h : a.block < w.heap.size) : (w.lay z).frozen? a = w.frozen? a := (w.lay_below z).frozen h

theorem region_lay {P : Program} {id : Nat} {Q : Exit → Act → World → Prop} {a : Act} {w : World} {l : List Oper} (hm : P.follows .mixedOrders = true) (hB : Region.lexB .any l.toArray = true)
    (h : wpQuiet P l.toArray (fun w' => ∃ z, w' = w.lay z) (fun a' => ∀ w', (∃ z, w' = w.lay z) → Q .normal a' w') l a) : (Code.region id l.toArray true).wp P Q a w :=
  wp_region_quiet (C := fun w' => ∃ z, w' = w.lay z) hm hB ⟨w.drew, (World.lay_of (Below.refl _ _).drew).symm⟩ (by simpa using h)

theorem Calls.lay_of {P : Program} {f : FuncId} {args : Array Value} {w z : World} {v : Value}
    (h : Calls P f args (w.lay z) fun e w' => e = .returned v ∧ Below (w.lay z).heap.size (w.lay z) w') : Calls P f args (w.lay z) fun e w'' => e = .returned v ∧ ∃ z, w'' = w.lay z :=
  h.mono fun _ w'' ⟨he, hb⟩ => ⟨he, w'', (World.lay_of ((w.lay_below z).trans (hb.mono (w.lay_below z).size))).symm⟩

theorem Calls.lay_same {P : Program} {f : FuncId} {args : Array Value} {w z : World} {v : Value}
    (h : Calls P f args (w.lay z) fun e w' => e = .returned v ∧ w.lay z = w') : Calls P f args (w.lay z) fun e w'' => e = .returned v ∧ ∃ z, w'' = w.lay z :=
  h.mono fun _ _ ⟨he, hb⟩ => ⟨he, z, hb.symm⟩

/-! ### A head that is quiet in a class, then a tail in one forced order -/
section
variable {P : Program} {ops : Array Oper} {md : Region.Mode} {C : World → Prop}

/-- The first f operations, whichever may come up, are of the head and quiet; then L. -/
def headC (P : Program) (md : Region.Mode) (ops : Array Oper) (C : World → Prop) (n : Nat) (L : Array Bool → Act → Prop) : Nat → Array Bool → Act → Prop
  | 0, done, a => L done a
  | f + 1, done, a => Region.ready md ops done ≠ [] ∧ ∀ i ∈ Region.ready md ops done, i < n ∧ qOp P ops C i (headC P md ops C n L f (done.setIfInBounds i true)) a

theorem headC_any {n g : Nat} {L : Array Bool → Act → Prop} {Q' : Exit → Act → World → Prop} (hL : ∀ done a w, C w → L done a → wpAny P md ops Q' g done a w) :
    ∀ (f : Nat) (done : Array Bool) (a : Act) (w : World), C w → headC P md ops C n L f done a → wpAny P md ops Q' (f + g) done a w := by
  intro f
  induction f with
  | zero => intro done a w hw h; rw [Nat.zero_add]; exact hL _ _ _ hw h
  | succ f ih =>
    intro done a w hw h
    rw [show f + 1 + g = (f + g) + 1 by omega]
    exact ⟨fun h0 => absurd h0 h.1, fun i hi => wpOp_of_qOp hw (fun a' w' hw' h' => ih _ a' w' hw' h') (h.2 i hi).2⟩

theorem headC_first {n i : Nat} {oi : Oper} {v : Value} {L : Array Bool → Act → Prop} (hi : ops[i]? = some oi) (hsel : ∀ (j : Nat) (o : Oper) cs b, ops[j]? = some o → o.op ≠ .select cs b)
    (hs : Region.sinkB md ops n = true) (hc : Region.chainB md ops n = true) (hn : n < ops.size) (hin : i < n) (hdone : ∀ done a, L done a → ∀ j ∈ Region.ready md ops done, n ≤ j) (f : Nat) :
    ∀ (done : Array Bool) (a : Act), HeadInv md ops n done →
      (∀ j oj, ops[j]? = some oj → j ≠ i → done.getD j true = false → (∀ e ∈ oj.after, Region.binds md e = true → e.on ≠ i) → oi.apart ops oj = true) →
      i ∈ Region.ready md ops done → YieldsIn P ops C oi v a → headC P md ops C n L f (done.setIfInBounds i true) (a.put oi.dst v) → headC P md ops C n L (f + 1) done a := by
  induction f with
  | zero =>
    intro done a inv _ hr hy H
    refine ⟨fun h => (by rw [h] at hr; cases hr), fun j hj => ?_⟩
    have hjn : j < n := Nat.lt_of_not_le fun h => tail_waits hs hc hn inv _ i rfl hin (mem_ready.1 hr).1 j h hj
    refine ⟨hjn, ?_⟩
    by_cases hji : j = i
    · subst hji; exact hy.qOp hi H
    · exact absurd (hdone _ _ H j (ready_mono hj hji)) (by omega)
  | succ f ih =>
    intro done a inv hfree hr hy H
    have hun := (mem_ready.1 hr).1
    refine ⟨fun h => (by rw [h] at hr; cases hr), fun j hj => ?_⟩
    have hjn : j < n := Nat.lt_of_not_le fun h => tail_waits hs hc hn inv _ i rfl hin hun j h hj
    refine ⟨hjn, ?_⟩
    by_cases hji : j = i
    · subst hji; exact hy.qOp hi H
    · obtain ⟨hjun, oj, hoj, hall⟩ := mem_ready.1 hj
      have hnot : ∀ e ∈ oj.after, Region.binds md e = true → e.on ≠ i := fun e he hb heq => by
        have h1 := hall e he hb
        rw [heq, getD_both hun] at h1
        cases h1
      refine qOp_mono (fun a' h3 => ih (done.setIfInBounds j true) a' (inv.set hj hjn) (fun k ok hk hki hu hno => ?_) (ready_mono hr (Ne.symm hji)) h3.1 (by rw [Array.setIfInBounds_comm _ _ hji]; exact h3.2))
        (qOp_put hoj (hfree j oj hoj hji hjun hnot) (fun cs b => hsel i oi cs b hi) (fun cs b => hsel j oj cs b hoj) hy (H.2 j (ready_mono hj hji)).2)
      refine hfree k ok hk hki ?_ hno
      by_cases hjk : j = k
      · subst hjk; exact hjun
      · rw [getD_set_ne true hjk] at hu; exact hu

theorem headC_lex {n g : Nat} {Lq : Act → Prop} (hsel : Region.noSelect ops = true) (hs : Region.sinkB md ops n = true) (hc : Region.chainB md ops n = true) (hn : n < ops.size) (l : List Oper) :
    ∀ (k : Nat) (done : Array Bool) (a : Act), (∀ j, j < l.length → l[j]? = ops[k + j]?) → k + l.length = n → HeadInv md ops n done →
    Region.lexHead md ops g l.length k done = true → wpQuiet P ops C Lq l a → headC P md ops C n (fun d a' => Region.seqB md ops g n d = true ∧ Lq a') l.length done a := by
  induction l with
  | nil =>
    intro k done a _ hk _ hB h
    obtain rfl : k = n := by simpa using hk
    exact ⟨by simpa [Region.lexHead] using hB, h⟩
  | cons o l ih =>
    intro k done a hl hk inv hB h
    have h0 : ops[k]? = some o := by simpa using (hl 0 (by simp)).symm
    simp only [List.length_cons, Region.lexHead, Bool.and_eq_true] at hB
    obtain ⟨⟨hr, hf⟩, hB'⟩ := hB
    have hkn : k < n := by simp only [List.length_cons] at hk; omega
    have hr' : k ∈ Region.ready md ops done := by simpa using hr
    have hst : qOp P ops C k (wpQuiet P ops C Lq l) a := by unfold qOp; simp only [h0]; exact h
    obtain ⟨v, hy, hK⟩ := yieldsIn_of_qOp h0 hst
    exact headC_first h0 (Region.noSelect_spec hsel) hs hc hn hkn (fun d a' hL => seqB_ready hL.1) l.length done a inv (Region.free_spec h0 hf) hr' hy
      (ih (k + 1) _ _ (fun j hj => by have := hl (j + 1) (by simp; omega); simpa [Nat.add_assoc, Nat.add_comm 1 j] using this) (by simp only [List.length_cons] at hk; omega) (inv.set hr' hkn) hB' hK)

theorem region_lay_tail {id : Nat} {Q : Exit → Act → World → Prop} {a : Act} {w : World} {l : List Oper} (n : Nat) (hm : P.follows .mixedOrders = true) (hB : Region.lexTailB .any l.toArray n = true)
    (h : wpQuiet P l.toArray (fun w' => ∃ z, w' = w.lay z) (fun a' => ∀ w', (∃ z, w' = w.lay z) → wpList P l.toArray Q (l.drop n) a' w') (l.take n) a) : (Code.region id l.toArray true).wp P Q a w := by
  simp only [Region.lexTailB, Bool.and_eq_true, decide_eq_true_eq] at hB
  obtain ⟨⟨⟨⟨hsel, hn⟩, hs⟩, hc⟩, hlex⟩ := hB
  have hn' : n < l.length := by simpa using hn
  have htl : (l.take n).length = n := by simp; omega
  have hdl : (l.drop n).length = l.toArray.size - n := by simp
  have inv0 : HeadInv .any l.toArray n (Array.replicate l.toArray.size false) :=
    ⟨by simp, fun j oj _ hl => (by rw [getD_replicate_false] at hl; cases hl), fun t _ ht => getD_in (by simpa using ht) (getD_replicate_false _ _)⟩
  have H := headC_lex (C := fun w' => ∃ z, w' = w.lay z) (md := .any) (g := l.toArray.size - n) hsel hs hc hn (l.take n) 0 _ a (fun j hj => by
    have hj' : j < n := by rw [htl] at hj; exact hj
    simp [hj']) (by simpa using htl) inv0 (by rw [htl]; exact hlex) h
  refine wp_region_any hm ?_
  have := headC_any (Q' := Q) (g := l.toArray.size - n) (fun d a' w' hw' hL => by
    have := wpAny_of_seq (md := .any) (Q' := Q) (l.drop n) n d a' w' (fun j => by simp [List.getElem?_drop]) (by rw [hdl]; exact hL.1) (hL.2 w' hw')
    rwa [hdl] at this) _ _ _ { w with drawn := w.drawn + 1 } ⟨w.drew, (World.lay_of (Below.refl _ _).drew).symm⟩ H
  rw [htl, show n + (l.toArray.size - n) = l.toArray.size by omega] at this
  exact this
end
end Go
end
section
namespace Go.Proofs.YtlbnfcpdmngjkaaGreatDoor
open Go Go.Proofs Go.Proofs.YtlbnfcpdmngjkaaGreatDoor.Ex
set_option maxRecDepth 100000
set_option linter.unusedSimpArgs false

theorem quiet64 : QuietFn Tryz.prog 162 := fun x w => by
  refine ⟨callFunc_run (c := (Tryz.f162.body).getD .skip) Tryz.func162 (by kernel_rfl) (by decide), ?_⟩
  refine callsDIn_of_wpSIn Tryz.func162 rfl trivial fun c₀ cs hu => ?_
  have hx := nilB_ok (E := envOf Tryz.prog .nil .nil (fun _ _ _ => none)) (γ := ⟨fun _ => none, fun _ => 0, fun _ => .nilIface⟩) (w := w) (envOf_ty _ _ _ _) (op := .neq) (t := 20) (xo := .tmp 5) (yo := .const .nilIface) .nilIface .nilIface (v := .bool false) (by kernel_rfl)
  obtain ⟨v, ⟨h1, h2⟩, h3⟩ := hx
  cases h3
  have h1 : (eqGuard .neq 20 (.tmp 5) (.const .nilIface) .nilIface .nilIface).run Tryz.prog w = .ok () w := h1
  have h2 : (Go.binOp .neq 20 .nilIface .nilIface).run Tryz.prog w = .ok (.bool false) w := h2
  apply wpSIn_seq
  apply wpSIn_region
  simp [wpOpsSIn, go_sem, recoverD, hu, Tryz.ntmps162, Exit.thenS]
  apply wpSIn_seq
  apply wpSIn_region
  simp [wpOpsSIn, go_sem, h1, h2, Exit.thenS]
  refine wpSIn_cond (t := false) (by simp [Act.eval]) ?_
  refine wpSIn_of_wpIn rfl (wpIn_skip ?_)
  simp [bodyPostS, results, Tryz.results162, go_sem, hu]
  all_goals
    cases c₀
    simp only at hu
    rw [hu]
end Go.Proofs.YtlbnfcpdmngjkaaGreatDoor
end
section
namespace Go.Proofs.YtlbnfcpdmngjkaaGreatDoor
open Go Go.Proofs Go.RowKit
set_option maxRecDepth 100000
set_option linter.unusedSimpArgs false
set_option maxHeartbeats 1000000

theorem cell_alloc {w : World} {a : Addr} {v : Value} (o : Obj) (h : w.cell? a = some v) : (w.alloc o).cell? a = some v :=
  (((Below.refl w.heap.size w).alloc (Nat.le_refl _) o).cell (World.block_lt_of_cell? w a h)).trans h
theorem cell_set {w : World} {a p : Addr} {v u : Value} (h : w.cell? a = some v) (hne : p ≠ a) : (w.setCell p u).cell? a = some v := by
  rw [World.cell?_setCell_other w p a u hne]; exact h
/-- One node, and a list of it, and depths. -/
structure One (D β q cap : Nat) (nm : ByteArray) (v2 v3 v4 : Int) (w : World) : Prop where
  d0 : w.cell? ⟨D, 0, none⟩ = some (.slice (some ⟨β, q, none⟩) 1 cap)
  df : w.frozen? ⟨D, 1, none⟩ = false
  c0 : w.cell? ⟨β, q, none⟩ = some (.string nm)
  c1 : w.cell? ⟨β, q + 1, none⟩ = some (.string ByteArray.empty)
  c2 : w.cell? ⟨β, q + 2, none⟩ = some (.int .i64 v2)
  c3 : w.cell? ⟨β, q + 3, none⟩ = some (.int .i64 v3)
  c4 : w.cell? ⟨β, q + 4, none⟩ = some (.int .i64 v4)
  ne : β ≠ D
theorem One.keep {D β q cap : Nat} {nm : ByteArray} {v2 v3 v4 : Int} {w w' : World} (h : One D β q cap nm v2 v3 v4 w) (hk : w'.heap[β]? = w.heap[β]?) (h0 : w'.cell? ⟨D, 0, none⟩ = w.cell? ⟨D, 0, none⟩) (hf : w'.frozen? ⟨D, 1, none⟩ = false) : One D β q cap nm v2 v3 v4 w' :=
  ⟨h0.trans h.d0, hf, (Ex.cell?_heap hk _).trans h.c0, (Ex.cell?_heap hk _).trans h.c1, (Ex.cell?_heap hk _).trans h.c2, (Ex.cell?_heap hk _).trans h.c3, (Ex.cell?_heap hk _).trans h.c4, h.ne⟩

theorem fill_any (D β q cap : Nat) (nm : ByteArray) (v2 v3 v4 : Int) (w : World) (H : RowKit.Hid (One D β q cap nm v2 v3 v4 w)) (hD1 : w.cell? ⟨D, 1, none⟩ = some (.map none)) :
    Calls Tryz.prog 181 #[.pointer (some ⟨D, 0, none⟩)] w fun e w' => (∃ v, e = .returned v) ∧ ∃ M, w.heap.size ≤ M ∧ w'.heap[M]? = some (.map #[{ key := .string nm, val := .int .i64 1, born := 0 }] 1) ∧ w'.cell? ⟨D, 1, none⟩ = some (.map (some M)) ∧ One D β q cap nm v2 v3 v4 w' ∧ Ex.Aside D w w' := by
  have hmm : ∀ (w : World), (Instr.makeMap 314 none).run Tryz.prog w = .ok (.map (some w.heap.size)) (w.alloc (.map #[] 0)) := fun w => run_makeMap_plain w 314
  have a1 : (w.alloc (.map #[] 0)).frozen? ⟨D, 1, none⟩ = false := (frozen?_alloc_map _ _ _ _).trans H.out.df
  have a2 : (w.alloc (.map #[] 0)).cell? ⟨D, 1, none⟩ = some (.map none) := cell_alloc _ hD1
  have hs := Lib.hid hD1
  clear hD1
  have b1 : RowKit.Hid (((w.alloc (.map #[] 0)).setCell ⟨D, 1, none⟩ (.map (some w.heap.size))).cell? ⟨D, 1, none⟩ = some (.map (some w.heap.size))) := World.cell?_setCell_same _ _ _ a2
  have b2 : RowKit.Hid (One D β q cap nm v2 v3 v4 ((w.alloc (.map #[] 0)).setCell ⟨D, 1, none⟩ (.map (some w.heap.size)))) := by
    have hβ := World.block_lt_of_cell? w _ H.out.c0
    refine H.out.keep ?_ ?_ ?_
    · rw [heap_setCell_other _ _ _ _ H.out.ne]
      exact ((Below.refl w.heap.size w).alloc (Nat.le_refl _) _).block _ hβ
    · exact (cell_set (cell_alloc _ H.out.d0) (by simp)).trans H.out.d0.symm
    · rw [World.frozen?_setCell]; exact a1
  have b3 : RowKit.Hid (((w.alloc (.map #[] 0)).setCell ⟨D, 1, none⟩ (.map (some w.heap.size))).heap[w.heap.size]? = some (.map #[] 0)) := by
    have hlt : D < w.heap.size := World.block_lt_of_cell? w _ hs.out
    show ((w.alloc (.map #[] 0)).setCell ⟨D, 1, none⟩ (.map (some w.heap.size))).heap[w.heap.size]? = some (.map #[] 0)
    rw [heap_setCell_other _ _ _ _ (by simp only; omega)]
    exact heap_alloc_new _ _
  have b4 : RowKit.Hid (Ex.Aside D w ((w.alloc (.map #[] 0)).setCell ⟨D, 1, none⟩ (.map (some w.heap.size)))) :=
    (Ex.Aside.of_below ((Below.refl w.heap.size w).alloc (Nat.le_refl _) _)).trans ⟨by simp [World.setCell], ⟨rfl, rfl, rfl⟩, fun β _ h => heap_setCell_other _ _ _ _ h⟩
  have b5 := b2.out.d0
  have hM : w.heap.size < ((w.alloc (.map #[] 0)).setCell ⟨D, 1, none⟩ (.map (some w.heap.size))).heap.size := by simp [World.size_setCell]
  go_enter Tryz.func181, Tryz.ntmps181
  go_wp2_with fail
  clear a1 a2 b5 hmm
  generalize ((w.alloc (.map #[] 0)).setCell ⟨D, 1, none⟩ (.map (some w.heap.size))) = W at *
  have d0 := b2.out.d0
  have c0 := b2.out.c0
  have c1 := b2.out.c1
  have c2 := b2.out.c2
  have c3 := b2.out.c3
  have c4 := b2.out.c4
  refine wp_loop_rounds 2 ?_
  rw [rounds_succ]
  go_wp2_with fail
  refine wp_loop_rounds 2 ?_
  rw [rounds_succ]
  go_wp2_with fail
  have e1 : (W.alloc (.cells #[.string nm, .string ByteArray.empty, .int .i64 v2, .int .i64 v3, .int .i64 v4] 236)).cell? ⟨D, 1, none⟩ = some (.map (some w.heap.size)) := cell_alloc _ b1.out
  have e2 : (W.alloc (.cells #[.string nm, .string ByteArray.empty, .int .i64 v2, .int .i64 v3, .int .i64 v4] 236)).cell? ⟨W.heap.size, 0, none⟩ = some (.string nm) := by simp
  have e3 : RowKit.Hid (Below W.heap.size W (W.alloc (.cells #[.string nm, .string ByteArray.empty, .int .i64 v2, .int .i64 v3, .int .i64 v4] 236))) := (Below.refl W.heap.size W).alloc (Nat.le_refl _) _
  have e4 : W.heap.size < (W.alloc (.cells #[.string nm, .string ByteArray.empty, .int .i64 v2, .int .i64 v3, .int .i64 v4] 236)).heap.size := by simp
  generalize (W.alloc (.cells #[.string nm, .string ByteArray.empty, .int .i64 v2, .int .i64 v3, .int .i64 v4] 236)) = W2 at *
  have hDW : D < W.heap.size := World.block_lt_of_cell? W _ d0
  have hDW2 : D < W2.heap.size := by omega
  clear d0 c0 c1 c2 c3 c4
  refine region_lay_tail 6 (by kernel_rfl) (by kernel_rfl) ?_
  simp only [List.take_succ_cons, List.take_zero, List.drop_succ_cons, List.drop_zero]
  repeat (go_big_quiet_step (fail))
  refine wpQuiet_nil ?_
  rintro _ ⟨zq, rfl⟩
  have hb := W2.lay_below zq
  have hm := run_mapUpdate_first (P := Tryz.prog) (W2.lay zq) 314 9 3 w.heap.size 0 nm (.int .i64 1) (by kernel_rfl) (by kernel_rfl) ((hb.block _ (by omega)).trans ((e3.out.block _ hM).trans b3.out))
  obtain ⟨W3, hW3⟩ : ∃ W3 : World, W3 = { W2.lay zq with heap := (W2.lay zq).heap.setIfInBounds w.heap.size (.map #[{ key := .string nm, val := .int .i64 1, born := 0 }] (0 + 1)) } := ⟨_, rfl⟩
  rw [← hW3] at hm
  have g1 : RowKit.Hid (∀ k, k ≠ w.heap.size → W3.heap[k]? = (W2.lay zq).heap[k]?) := fun k hk => by
    rw [hW3]
    simp only [Array.getElem?_setIfInBounds, if_neg (Ne.symm hk)]
  have g2 : RowKit.Hid (W3.heap[w.heap.size]? = some (.map #[{ key := .string nm, val := .int .i64 1, born := 0 }] 1)) := by
    have := hb.size
    have h : w.heap.size < (W2.lay zq).heap.size := by omega
    refine Lib.hid ?_
    rw [hW3]
    simp [Array.getElem?_setIfInBounds, h]
  have g3 : RowKit.Hid (W3.heap.size = (W2.lay zq).heap.size) := Lib.hid (by rw [hW3]; simp)
  have g4 : RowKit.Hid (Ex.Same (W2.lay zq) W3) := Lib.hid (by rw [hW3]; exact ⟨rfl, rfl, rfl⟩)
  clear hW3
  go_wp2_with fail
  clear hm
  rw [rounds_succ]
  go_wp2_with fail
  rw [rounds_succ]
  go_wp2_with fail
  go_end0
  have hsz := hb.size
  have hDw : D < w.heap.size := World.block_lt_of_cell? w _ hs.out
  have hβw : β < w.heap.size := World.block_lt_of_cell? w _ H.out.c0
  have hk : ∀ k, k < W.heap.size → k ≠ w.heap.size → W3.heap[k]? = W.heap[k]? := fun k h1 h2 => (g1.out k h2).trans ((hb.block k (by omega)).trans (e3.out.block k h1))
  refine ⟨⟨_, rfl⟩, w.heap.size, Nat.le_refl _, g2.out, ?_, ?_, ?_⟩
  · exact (Ex.cell?_heap (hk D hDW (by omega)) _).trans b1.out
  · exact b2.out.keep (hk β (by omega) (by omega)) (Ex.cell?_heap (hk D hDW (by omega)) _) ((Ex.frozen?_heap (hk D hDW (by omega)) _).trans b2.out.df)
  · refine ⟨by rw [g3.out]; omega, ⟨?_, ?_, ?_⟩, fun k h1 h2 => (hk k (by omega) (by omega)).trans (b4.out.keep k h1 h2)⟩
    · rw [g4.out.os, hb.os, e3.out.os, b4.out.still.os]
    · rw [g4.out.tape, hb.tape, e3.out.tape, b4.out.still.tape]
    · rw [g4.out.output, hb.output, e3.out.output, b4.out.still.output]
end Go.Proofs.YtlbnfcpdmngjkaaGreatDoor
/- Walks of package want at one node: is it a tree. -/
namespace Go.Proofs.YtlbnfcpdmngjkaaGreatDoor
open Go Go.Proofs Go.RowKit
set_option maxRecDepth 100000
set_option linter.unusedSimpArgs false
set_option linter.unusedVariables false
set_option maxHeartbeats 1000000

/-- A list of one node without a parent: where it lies, and what it is. -/
def oneOf (x : Ex.AV) (H : Ex.AH) : Option (Nat × Nat × Bool × List UInt8 × Int × Int × Int) := match x with
  | .slice b o n es fl => if n = 1 ∧ es = 5 then match Ex.loadA H b o 5 with
    | some [.str nm, .str [], .int .i64 v2, .int .i64 v3, .int .i64 v4] => some (b, o, fl, nm, v2, v3, v4)
    | _ => none
    else none
  | _ => none
theorem oneOf_ok {x : Ex.AV} {H : Ex.AH} {b o : Nat} {fl : Bool} {nm : List UInt8} {v2 v3 v4 : Int} (h : oneOf x H = some (b, o, fl, nm, v2, v3, v4)) : x = .slice b o 1 5 fl ∧ Ex.loadA H b o 5 = some [.str nm, .str [], .int .i64 v2, .int .i64 v3, .int .i64 v4] := by
  unfold oneOf at h
  split at h
  · split at h
    · rename_i hc
      split at h
      · rename_i hl
        simp only [Option.some.injEq, Prod.mk.injEq] at h
        obtain ⟨rfl, rfl, rfl, rfl, rfl, rfl, rfl⟩ := h
        exact ⟨by rw [hc.1, hc.2], hl⟩
      · cases h
    · cases h
  · cases h
theorem callWp_calls {P : Program} {f : FuncId} {args : List Value} {w : World} {K : Value → World → Prop} (h : Ex.CallWp P f args w K) {fn : Func} {c : Code} (h1 : P.funcs[f]? = some fn) (h2 : fn.body = some c) (h3 : fn.name ≠ "runtime.NumGoroutine") : Calls P f args.toArray w fun e w' => ∃ v, e = .returned v ∧ K v w' := by
  unfold Ex.CallWp at h
  rw [Ex.callFunc_run h1 h2 h3] at h
  exact h
/-- What the runner says of a call, as a contract. -/
theorem said {E : Ex.Env} (hP : E.P = Tryz.prog) {call : Ex.CallF} (hc : Ex.CallOk E call) {f : FuncId} {fn : Func} (h1 : Tryz.prog.funcs[f]? = some fn) (h2 : fn.body.isSome = true) (h3 : fn.name ≠ "runtime.NumGoroutine") {args : List Ex.AV} {H H' : Ex.AH} {v : Ex.AV} (hr : call f args H = some (v, H'))
    {γ : Ex.Cx} {N : Nat} {w : World} {args' : List Value} (hrel : Ex.Rel E γ N H.bs.get w) (hN : N ≤ w.heap.size) (hargs : Ex.VRs γ args args') (hf : ∀ id, H.n ≤ id → id < H'.n → γ.loc id = none) :
    Calls Tryz.prog f args'.toArray w fun e w' => ∃ v', e = .returned v' ∧ ∃ γ', Ex.VR γ' v v' ∧ Ex.Rel E γ' N H'.bs.get w' ∧ Ex.Nxt γ H.bs.get w H.n γ' H'.bs.get w' H'.n := by
  obtain ⟨c, h2⟩ := Option.isSome_iff_exists.1 h2
  have := hc hr hrel hN hargs hf
  rw [hP] at this
  exact callWp_calls this h1 h2 h3

/-- What the runner's slice of one node is to the machine. -/
theorem one_cells {E : Ex.Env} {γ : Ex.Cx} {N : Nat} {H : Ex.AH} {w : World} (h : Ex.Rel E γ N H.bs.get w) {b o : Nat} {nm : List UInt8} {v2 v3 v4 : Int} (hl : Ex.loadA H b o 5 = some [.str nm, .str [], .int .i64 v2, .int .i64 v3, .int .i64 v4]) {β ω σ : Nat} (hb : γ.loc b = some (β, ω, σ)) :
    w.cell? ⟨β, ω + o, none⟩ = some (.string ⟨nm.toArray⟩) ∧ w.cell? ⟨β, ω + o + 1, none⟩ = some (.string ByteArray.empty) ∧ w.cell? ⟨β, ω + o + 2, none⟩ = some (.int .i64 v2) ∧ w.cell? ⟨β, ω + o + 3, none⟩ = some (.int .i64 v3) ∧ w.cell? ⟨β, ω + o + 4, none⟩ = some (.int .i64 v4) := by
  obtain ⟨_, hc⟩ := Ex.loadA_cells h hl hb
  obtain ⟨_, a0, r0⟩ := hc 0 _ rfl
  obtain ⟨_, a1, r1⟩ := hc 1 _ rfl
  obtain ⟨_, a2, r2⟩ := hc 2 _ rfl
  obtain ⟨_, a3, r3⟩ := hc 3 _ rfl
  obtain ⟨_, a4, r4⟩ := hc 4 _ rfl
  cases r0; cases r1; cases r2; cases r3; cases r4
  exact ⟨a0, a1, a2, a3, a4⟩

theorem check_any {E : Ex.Env} (hP : E.P = Tryz.prog) {call : Ex.CallF} (hc : Ex.CallOk E call) (hnum : Ex.NumOk call) {b o : Nat} {fl fl' : Bool} {nm nm' : List UInt8} {v2 v3 v4 v2' v3' v4' : Int} {H H1 H2 : Ex.AH}
    (h0 : Ex.loadA H b o 5 = some [.str nm, .str [], .int .i64 v2, .int .i64 v3, .int .i64 v4]) (h1 : call 179 [.agg [.slice b o 1 5 fl]] H = some (.int .i64 0, H1))
    (h2 : Ex.loadA H1 b o 5 = some [.str nm', .str [], .int .i64 v2', .int .i64 v3', .int .i64 v4']) (h3 : call 182 [.agg [.slice b o 1 5 fl]] H1 = some (.int .i64 0, H2))
    {γ : Ex.Cx} {N : Nat} {w : World} (hrel : Ex.Rel E γ N H.bs.get w) (hN : N ≤ w.heap.size) {s : Value} (hs : Ex.VR γ (.slice b o 1 5 fl) s) (hf : ∀ id, H.n ≤ id → id < H2.n → γ.loc id = none) :
    Calls Tryz.prog 122 #[s] w fun e w' => ∃ v', e = .returned v' ∧ ∃ γ', Ex.VR γ' (.int .i64 0) v' ∧ Ex.Rel E γ' N H2.bs.get w' ∧ Ex.Nxt γ H.bs.get w H.n γ' H2.bs.get w' H2.n := by
  have n1 := hnum h1
  have n2 := hnum h3
  cases hs with
  | slice hl hle hfull hA hfit =>
  rename_i β ω σ cap A
  have hAd : A = ⟨β, ω + o, none⟩ := hA (by omega)
  subst hAd
  have hW1 : Below w.heap.size w (w.alloc (.cells #[.slice (some ⟨β, ω + o, none⟩) 1 cap, .map none] 316)) := (Below.refl w.heap.size w).alloc (Nat.le_refl _) _
  have hrel1 : Ex.Rel E γ N H.bs.get (w.alloc (.cells #[.slice (some ⟨β, ω + o, none⟩) 1 cap, .map none] 316)) :=
    hrel.aside (D := w.heap.size) (Ex.Aside.of_below hW1) (fun id k l hk hl e => by have := (hrel.low hl).2; omega) hN hN
  have HREL := Lib.hid hrel
  have HREL1 := Lib.hid hrel1
  have HF := Lib.hid hf
  have HL := Lib.hid hl
  clear hrel hrel1 hf hl
  go_enter Tryz.func122, Tryz.ntmps122
  go_wp2_with fail
  refine (said hP hc Tryz.func179 (by kernel_rfl) (by decide) h1 HREL1.out (by simp; omega) (.cons (.agg (.cons (.slice HL.out hle hfull (fun _ => rfl) hfit) .nil)) .nil) (fun id a b => HF.out id a (by omega))).mono ?_
  rintro e w2 ⟨v, rfl, γ1, hv, hrel2, hnx1⟩
  cases hv
  have hoff : ∀ id k l, H.bs.get id = some k → γ.loc id = some l → l.1 ≠ w.heap.size := fun id k l hk hl e => by have := (HREL.out.low hl).2; omega
  have hkeep := hnx1.keep w.heap.size (by simp) hoff
  have hoff1 : ∀ id k l, H1.bs.get id = some k → γ1.loc id = some l → l.1 ≠ w.heap.size := Ex.off_made hnx1 (by simp) hoff
  obtain ⟨c0, c1, c2, c3, c4⟩ := one_cells hrel2 h2 (hnx1.le.loc HL.out)
  have d0 : w2.cell? ⟨w.heap.size, 0, none⟩ = some (.slice (some ⟨β, ω + o, none⟩) 1 cap) := (Ex.cell?_heap hkeep 0).trans (by simp)
  have d1 : w2.cell? ⟨w.heap.size, 1, none⟩ = some (.map none) := (Ex.cell?_heap hkeep 1).trans (by simp)
  have df : w2.frozen? ⟨w.heap.size, 1, none⟩ = false := (Ex.frozen?_heap hkeep 1).trans (by simp)
  have hsz : w.heap.size < w2.heap.size := by have := hnx1.size; simp at this; omega
  have hβ : β < w.heap.size := (HREL.out.low HL.out).2
  have ONE : RowKit.Hid (One w.heap.size β (ω + o) cap ⟨nm'.toArray⟩ v2' v3' v4' w2) := ⟨d0, df, c0, c1, c2, c3, c4, by omega⟩
  have HREL2 := Lib.hid hrel2
  have HNX1 := Lib.hid (hnx1.ahead (Ex.Aside.of_below (D := w.heap.size) hW1) (Nat.le_refl _))
  have HD1 := Lib.hid d1
  have HOFF1 := Lib.hid hoff1
  clear hrel2 hkeep hoff hoff1 hnx1 d1 df
  go_wp2_with fail
  refine wp_loop_rounds 2 ?_
  rw [rounds_succ]
  go_wp2_with fail
  have e1 : (w2.alloc (.cells #[.string ⟨nm'.toArray⟩, .string ByteArray.empty, .int .i64 v2', .int .i64 v3', .int .i64 v4'] 236)).cell? ⟨w2.heap.size, 1, none⟩ = some (.string ByteArray.empty) := by simp
  have HB3 : RowKit.Hid (Below w2.heap.size w2 (w2.alloc (.cells #[.string ⟨nm'.toArray⟩, .string ByteArray.empty, .int .i64 v2', .int .i64 v3', .int .i64 v4'] 236))) := (Below.refl w2.heap.size w2).alloc (Nat.le_refl _) _
  have e4 : w2.heap.size < (w2.alloc (.cells #[.string ⟨nm'.toArray⟩, .string ByteArray.empty, .int .i64 v2', .int .i64 v3', .int .i64 v4'] 236)).heap.size := by simp
  have e5 : (w2.alloc (.cells #[.string ⟨nm'.toArray⟩, .string ByteArray.empty, .int .i64 v2', .int .i64 v3', .int .i64 v4'] 236)).cell? ⟨w.heap.size, 0, none⟩ = some (.slice (some ⟨β, ω + o, none⟩) 1 cap) := cell_alloc _ d0
  have e6 : w.heap.size < (w2.alloc (.cells #[.string ⟨nm'.toArray⟩, .string ByteArray.empty, .int .i64 v2', .int .i64 v3', .int .i64 v4'] 236)).heap.size := by simp; omega
  generalize (w2.alloc (.cells #[.string ⟨nm'.toArray⟩, .string ByteArray.empty, .int .i64 v2', .int .i64 v3', .int .i64 v4'] 236)) = W3 at *
  clear d0 c0 c1 c2 c3 c4
  refine region_lay (by kernel_rfl) (by kernel_rfl) ?_
  repeat (go_big_quiet_step (fail))
  refine wpQuiet_nil ?_
  rintro _ ⟨zq, rfl⟩
  have HB4 := Lib.hid (HB3.out.trans ((W3.lay_below zq).mono (by omega)))
  have hsz4 := (W3.lay_below zq).size
  generalize W3.lay zq = W4 at *
  go_wp2_with fail
  rw [rounds_succ]
  go_wp2_with fail
  have one4 : One w.heap.size β (ω + o) cap ⟨nm'.toArray⟩ v2' v3' v4' W4 :=
    ONE.out.keep (HB4.out.block _ (by omega)) (Ex.cell?_heap (HB4.out.block _ hsz) 0) ((Ex.frozen?_heap (HB4.out.block _ hsz) 1).trans ONE.out.df)
  have hd14 : W4.cell? ⟨w.heap.size, 1, none⟩ = some (.map none) := (Ex.cell?_heap (HB4.out.block _ hsz) 1).trans HD1.out
  refine (fill_any _ _ _ _ _ _ _ _ _ (Lib.hid one4) hd14).mono ?_
  clear one4 hd14
  rintro e w5 ⟨⟨v, rfl⟩, M, hM, hmap, hd1, one5, aside⟩
  have HM := Lib.hid hmap
  have ONE5 := Lib.hid one5
  have HX := Lib.hid aside
  have HD5 := Lib.hid hd1
  have d0 := one5.d0
  have c0 := one5.c0
  have c1 := one5.c1
  have c2 := one5.c2
  have c3 := one5.c3
  have c4 := one5.c4
  clear hmap hd1 one5 aside
  go_wp2_with fail
  refine wp_loop_rounds 2 ?_
  rw [rounds_succ]
  go_wp2_with fail
  have hsz5 := HX.out.size
  have k0 : (w5.alloc (.cells #[.string ⟨nm'.toArray⟩, .string ByteArray.empty, .int .i64 v2', .int .i64 v3', .int .i64 v4'] 236)).cell? ⟨w5.heap.size, 0, none⟩ = some (.string ⟨nm'.toArray⟩) := by simp
  have HB6 : RowKit.Hid (Below w5.heap.size w5 (w5.alloc (.cells #[.string ⟨nm'.toArray⟩, .string ByteArray.empty, .int .i64 v2', .int .i64 v3', .int .i64 v4'] 236))) := (Below.refl w5.heap.size w5).alloc (Nat.le_refl _) _
  have k4 : w5.heap.size < (w5.alloc (.cells #[.string ⟨nm'.toArray⟩, .string ByteArray.empty, .int .i64 v2', .int .i64 v3', .int .i64 v4'] 236)).heap.size := by simp
  have k5 : (w5.alloc (.cells #[.string ⟨nm'.toArray⟩, .string ByteArray.empty, .int .i64 v2', .int .i64 v3', .int .i64 v4'] 236)).cell? ⟨w.heap.size, 1, none⟩ = some (.map (some M)) := cell_alloc _ HD5.out
  have k6 : w.heap.size < (w5.alloc (.cells #[.string ⟨nm'.toArray⟩, .string ByteArray.empty, .int .i64 v2', .int .i64 v3', .int .i64 v4'] 236)).heap.size := by simp; omega
  have hMlt : M < w5.heap.size := (Array.getElem?_eq_some_iff.1 HM.out).1
  have HM6 : RowKit.Hid ((w5.alloc (.cells #[.string ⟨nm'.toArray⟩, .string ByteArray.empty, .int .i64 v2', .int .i64 v3', .int .i64 v4'] 236)).heap[M]? = some (.map #[{ key := .string ⟨nm'.toArray⟩, val := .int .i64 1, born := 0 }] 1)) := (HB6.out.block _ hMlt).trans HM.out
  generalize (w5.alloc (.cells #[.string ⟨nm'.toArray⟩, .string ByteArray.empty, .int .i64 v2', .int .i64 v3', .int .i64 v4'] 236)) = W6 at *
  clear d0 c0 c1 c2 c3 c4
  have hlk : ∀ z, (Instr.lookup 314 (.map (some M)) (.string ⟨nm'.toArray⟩) false).run Tryz.prog (W6.lay z) = .ok (.int .i64 1) (W6.lay z) := fun z => Ex.run_lookup_one (kt := 9) (et := 3) (by kernel_rfl) (by kernel_rfl) (((W6.lay_below z).block M (by omega)).trans HM6.out)
  refine region_lay (by kernel_rfl) (by kernel_rfl) ?_
  repeat (go_big_quiet_step (fail))
  refine wpQuiet_nil ?_
  rintro _ ⟨zq2, rfl⟩
  have hb7 := W6.lay_below zq2
  have k7 := hb7.size
  have HX7 : RowKit.Hid (Ex.Aside w.heap.size w2 (W6.lay zq2)) := ((Ex.Aside.of_below HB4.out).trans HX.out).trans (Ex.Aside.of_below (HB6.out.trans (hb7.mono (by omega))))
  have k8 : (W6.lay zq2).cell? ⟨w.heap.size, 0, none⟩ = some (.slice (some ⟨β, ω + o, none⟩) 1 cap) :=
    (Ex.cell?_heap (hb7.block _ (by omega)) 0).trans ((Ex.cell?_heap (HB6.out.block _ (by omega)) 0).trans ONE5.out.d0)
  clear hlk hb7
  generalize W6.lay zq2 = W7 at *
  go_wp2_with fail
  rw [rounds_succ]
  go_wp2_with fail
  have hrel7 : Ex.Rel E γ1 N H1.bs.get W7 := HREL2.out.aside HX7.out HOFF1.out hN (by omega)
  have hnx7 : Ex.Nxt γ H.bs.get w H.n γ1 H1.bs.get W7 H1.n := HNX1.out.aside HX7.out (Nat.le_refl _)
  refine (said hP hc Tryz.func182 (by kernel_rfl) (by decide) h3 hrel7 (by omega) (.cons (.agg (.cons (.slice (HNX1.out.le.loc HL.out) hle hfull (fun _ => rfl) hfit) .nil)) .nil) (Ex.free_rest hnx7 n2 HF.out)).mono ?_
  rintro e w8 ⟨v8, rfl, γ2, hv8, hrel8, hnx8⟩
  cases hv8
  have HR8 := Lib.hid hrel8
  have HN8 := Lib.hid (hnx7.trans hnx8)
  clear hrel7 hnx7 hrel8 hnx8
  go_wp2_with fail
  go_ret
  exact ⟨_, rfl, γ2, .int _ _, HR8.out, HN8.out⟩
end Go.Proofs.YtlbnfcpdmngjkaaGreatDoor

/- Walks of package want at one node: the top. -/
namespace Go.Proofs.YtlbnfcpdmngjkaaGreatDoor
open Go Go.Proofs Go.RowKit
set_option maxRecDepth 100000
set_option linter.unusedSimpArgs false
set_option linter.unusedVariables false
set_option maxHeartbeats 1000000

theorem ins_any (A : Option Addr) (cap : Nat) (f : Fn) (c : Array Value) (w : World) : Calls Tryz.prog 326 #[.slice A 1 cap, .int .i64 0, .int .i64 1, .func f #[] c] w fun e w' => (∃ v, e = .returned v) ∧ w' = w := by
  go_enter Tryz.func326, Tryz.ntmps326
  go_wp2_with fail
  refine wp_loop_rounds 1 ?_
  rw [rounds_succ]
  go_wp2_with fail
  go_end0
  exact ⟨⟨_, rfl⟩, rfl⟩
theorem stable_any (A : Option Addr) (cap : Nat) (f : Fn) (c : Array Value) (w : World) : Calls Tryz.prog 258 #[.slice A 1 cap, .int .i64 1, .func f #[] c] w fun e w' => (∃ v, e = .returned v) ∧ w' = w := by
  go_enter Tryz.func258, Tryz.ntmps258
  go_wp2_with fail
  refine wp_loop_rounds 1 ?_
  rw [rounds_succ]
  go_wp2_with fail
  refine (ins_any A cap f c w).mono ?_
  rintro e w' ⟨⟨v, rfl⟩, rfl⟩
  go_wp2_with fail
  refine wp_loop_rounds 1 ?_
  rw [rounds_succ]
  go_wp2_with fail
  go_end0
  exact ⟨⟨_, rfl⟩, rfl⟩
theorem sort_any (A : Option Addr) (cap : Nat) (f : Fn) (c : Array Value) (w : World) : Calls Tryz.prog 185 #[.slice A 1 cap, .func f #[] c] w fun e w' => (∃ v, e = .returned v) ∧ w' = w := by
  go_enter Tryz.func185, Tryz.ntmps185
  go_wp2_with fail
  refine (stable_any A cap f c w).mono ?_
  rintro e w' ⟨⟨v, rfl⟩, rfl⟩
  go_wp2_with fail
  go_end0
  exact ⟨⟨_, rfl⟩, rfl⟩
theorem made_any (β q cap : Nat) (nm : ByteArray) (v2 v3 v4 : Int) (w : World) (h0 : w.cell? ⟨β, q, none⟩ = some (.string nm)) (h1 : w.cell? ⟨β, q + 1, none⟩ = some (.string ByteArray.empty)) (h2 : w.cell? ⟨β, q + 2, none⟩ = some (.int .i64 v2)) (h3 : w.cell? ⟨β, q + 3, none⟩ = some (.int .i64 v3)) (h4 : w.cell? ⟨β, q + 4, none⟩ = some (.int .i64 v4)) :
    Calls Tryz.prog 183 #[.slice (some ⟨β, q, none⟩) 1 cap] w fun e w' => e = .returned (.pointer (some ⟨w.heap.size, 0, none⟩)) ∧ Below w.heap.size w w' := by
  have hβ : β < w.heap.size := World.block_lt_of_cell? w _ h0
  have hd1 : (w.alloc (.cells #[.slice (some ⟨β, q, none⟩) 1 cap, .map none] 316)).cell? ⟨w.heap.size, 1, none⟩ = some (.map none) := by simp
  have ONE : RowKit.Hid (One w.heap.size β q cap nm v2 v3 v4 (w.alloc (.cells #[.slice (some ⟨β, q, none⟩) 1 cap, .map none] 316))) := ⟨by simp, by simp, cell_alloc _ h0, cell_alloc _ h1, cell_alloc _ h2, cell_alloc _ h3, cell_alloc _ h4, by omega⟩
  have HB : RowKit.Hid (Below w.heap.size w (w.alloc (.cells #[.slice (some ⟨β, q, none⟩) 1 cap, .map none] 316))) := (Below.refl w.heap.size w).alloc (Nat.le_refl _) _
  clear h0 h1 h2 h3 h4
  go_enter Tryz.func183, Tryz.ntmps183
  go_wp2_with fail
  refine (fill_any _ _ _ _ _ _ _ _ _ ONE hd1).mono ?_
  rintro e w' ⟨⟨v, rfl⟩, M, hM, hmap, hd, one, aside⟩
  have HX := Lib.hid aside
  clear hmap hd one aside
  go_wp2_with fail
  go_ret
  refine ⟨rfl, HB.out.trans ⟨HX.out.still.os, HX.out.still.tape, HX.out.still.output, HX.out.size, fun k hk => HX.out.keep k (by simp; omega) (by omega)⟩⟩
end Go.Proofs.YtlbnfcpdmngjkaaGreatDoor
end
section
namespace Go.Proofs.YtlbnfcpdmngjkaaGreatDoor
open Go Go.Proofs Go.RowKit Go.Lib
set_option maxRecDepth 100000
set_option linter.unusedSimpArgs false
set_option linter.unusedVariables false
set_option maxHeartbeats 1000000

theorem info113 : (Tryz.prog.info? 113).map (fun i => (i.zero, i.size, i.bytes)) = some (some (.agg #[.string ⟨#[]⟩, .string ⟨#[]⟩, .int .i64 0, .int .i64 0, .int .i64 0, .int .i64 0, .int .i64 0, .int .i64 0, .int .i64 0, .int .i64 0, .int .i64 0, .int .i64 0]), 12, 112) := by kernel_rfl
theorem info113s : (Tryz.prog.info? 113).map (·.size) = some 12 := by kernel_rfl
/-- One element of twelve cells goes over. -/
theorem run_copy_one (w : World) (ty : TypeId) (b o dLen dCap : Nat) (a : Addr) (sLen sCap : Nat) (cs : List Value) (hl : cs.length = 12) (hn : Nat.min sLen dLen = 1)
    (hsrc : ∀ j v, cs[j]? = some v → w.cell? (a.add j) = some v) (hc : ∀ j, j < 12 → (w.cell? ⟨b, o + j, none⟩).isSome = true) (hf : ∀ j, j < 12 → w.frozen? ⟨b, o + j, none⟩ = false) (h1 : ∀ v ∈ cs, v.oneCell' = true) :
    (Builtin.copy_ #[44, 44] ty #[.slice (some ⟨b, o, none⟩) dLen dCap, .slice (some a) sLen sCap]).run Tryz.prog w = .ok (goInt 1) (w.setCells b o cs) := by
  have hld := run_loadCells_list (P := Tryz.prog) w a cs hsrc
  have hst := run_storeCells_cells (P := Tryz.prog) b o cs 0 w (by rw [hl]; simpa using hc) (by rw [hl]; simpa using hf) h1
  have hu : Tryz.prog.underlying 44 = some (.slice 113) := Tryz.underlying44
  have hs := info113s
  cases hq : Tryz.prog.info? 113 with
  | none => simp [hq] at hs
  | some i =>
    have hi : i.size = 12 := by simpa [hq] using hs
    rw [hl] at hld
    simp [Builtin.copy_, run_underlying hu, Builtin.lenOf, Builtin.firstCells, sizeOf, typeInfo, hq, hi, hn, hld, hst]

/-- A copy whose run is known, as a step. -/
theorem wp_copy_is {P : Program} (w : World) {o : Oper} {a : Act} {K : Act → World → Prop} {Q : Exit → Act → World → Prop} (d s : Operand) (t t' : TypeId)
    (ho : o.op = .call { callee := .builtin .copy, args := #[d, s], argTypes := #[t, t'] }) (v u : Value) (hd : a.eval d = v) (hs : a.eval s = u) {v' : Value} {w' : World}
    (hr : (Builtin.copy_ #[t, t'] o.type #[v, u]).run P w = .ok v' w') (h : K (a.put o.dst v') w') : o.wp P a w K Q := by
  unfold Oper.wp execOp
  simp only [ho, resolve, invoke, builtin, Sem.run_bind, Sem.run_pure, Result.andThen_ok, List.map_toArray, List.map_cons, List.map_nil, hd, hs, hr]
  exact h
theorem wpList_copy_is {P : Program} (w : World) {ops : Array Oper} {rest : List Oper} {o : Oper} {a : Act} {Q : Exit → Act → World → Prop} (hgd : o.guard = none) (d s : Operand) (t t' : TypeId)
    (ho : o.op = .call { callee := .builtin .copy, args := #[d, s], argTypes := #[t, t'] }) (v u : Value) (hd : a.eval d = v) (hs : a.eval s = u) {v' : Value} {w' : World}
    (hr : (Builtin.copy_ #[t, t'] o.type #[v, u]).run P w = .ok v' w') (h : wpList P ops Q rest (a.put o.dst v') w') : wpList P ops Q (o :: rest) a w :=
  wpList_plain hgd fun _ hK => wp_copy_is w d s t t' ho v u hd hs hr (hK _ _ h)
theorem step_copy_is {P : Program} {ops : Array Oper} {o : Oper} {a : Act} {w : World} {K : Act → World → Prop} {Q : Exit → Act → World → Prop} {E : Prop}
    (hg : o.guard = none) (d x : Operand) (dT sT : TypeId) (hop : o.op = Op.call { callee := Callee.builtin Builtin.copy, args := #[d, x], argTypes := #[dT, sT] })
    (v u : Value) (hd : a.eval d = v) (hx : a.eval x = u) {v' : Value} {w' : World} (hr : (Builtin.copy_ #[dT, sT] o.type #[v, u]).run P w = .ok v' w') (hK : K (a.put o.dst v') w') :
    if Region.wanted o (yielded ops a.tmps) = true then Oper.wp P o a w K Q else E := by
  have hw : Region.wanted o (yielded ops a.tmps) = true := by simp [Region.wanted, hg]
  rw [if_pos hw]
  exact wp_copy_is w d x dT sT hop v u hd hx hr hK

theorem overl (w : World) (a b : Addr) (la ca lb cb : Nat) (hne : a.block ≠ b.block) (tA tB : TypeId) (kA kB : Nat) (hsa : w.shape? a.block = some (tA, kA)) (hsb : w.shape? b.block = some (tB, kB)) (hkB : kB ≠ 0)
    (hfa : w.frozen? a = false) (hfe : w.frozen? { block := a.block, off := kA } = false) :
    (callFunc 150 #[.slice (some a) la ca, .slice (some b) lb cb]).run Tryz.prog w = .ok (.value (.bool false)) w := by
  have hz : ∀ w, (Go.sizeOf 113).run Tryz.prog w = .ok 12 w := fun w => by
    have hs := info113s
    cases hq : Tryz.prog.info? 113 with
    | none => simp [hq] at hs
    | some i =>
      have hi : i.size = 12 := by simpa [hq] using hs
      simp [Go.sizeOf, typeInfo, hq, hi]
  rw [run_callFunc_extern Tryz.func150 (by kernel_rfl) (by kernel_rfl) (by kernel_rfl) (e := Extern.SlicesOverlaps.overlaps #[44, 44] #[4]) (by kernel_rfl),
    run_overlaps_apart w 44 4 113 Tryz.underlying44 12 hz a b la ca lb cb hne tA tB kA kB hsa hsb hkB hfa hfe]
  rfl

theorem ins_room (β off c β2 off2 vc : Nat) (cs vs : List Value) (w : World) (hc : 2 ≤ c) (hne : β2 ≠ β) (hcl : cs.length = 12) (hvl : vs.length = 12)
    (hcs : ∀ j v, cs[j]? = some v → w.cell? ⟨β, off + j, none⟩ = some v) (hsp : ∀ j, j < 24 → (w.cell? ⟨β, off + j, none⟩).isSome = true) (hfz : ∀ j, j < 24 → w.frozen? ⟨β, off + j, none⟩ = false)
    (hvs : ∀ j v, vs[j]? = some v → w.cell? ⟨β2, off2 + j, none⟩ = some v) (h1c : ∀ v ∈ cs, v.oneCell' = true) (h1v : ∀ v ∈ vs, v.oneCell' = true)
    (tA tB : TypeId) (kA kB : Nat) (hsa : w.shape? β2 = some (tA, kA)) (hsb : w.shape? β = some (tB, kB)) (hkB : kB ≠ 0) (hfa : w.frozen? ⟨β2, off2, none⟩ = false) (hfe : w.frozen? ⟨β2, kA, none⟩ = false) :
    Calls Tryz.prog 98 #[.slice (some ⟨β, off, none⟩) 1 c, .int .i64 0, .slice (some ⟨β2, off2, none⟩) 1 vc] w fun e w' =>
      e = .returned (.slice (some ⟨β, off, none⟩) 2 c) ∧ w' = (w.drew.setCells β (off + 12) cs).setCells β off vs := by
  have hov : ∀ lb cb, (callFunc 150 #[.slice (some ⟨β2, off2, none⟩) 1 vc, .slice (some ⟨β, off + 12, none⟩) lb cb]).run Tryz.prog w = .ok (.value (.bool false)) w :=
    fun lb cb => overl w ⟨β2, off2, none⟩ ⟨β, off + 12, none⟩ 1 vc lb cb hne tA tB kA kB hsa hsb hkB hfa hfe
  have mixed : Tryz.prog.follows .mixedOrders = true := by kernel_rfl
  have hcp1 : ∀ ty dc sc, (Builtin.copy_ #[44, 44] ty #[.slice (some ⟨β, off + 12, none⟩) 1 dc, .slice (some ⟨β, off, none⟩) 2 sc]).run Tryz.prog w.drew = .ok (goInt 1) (w.drew.setCells β (off + 12) cs) := fun ty dc sc =>
    run_copy_one w.drew ty β (off + 12) 1 dc ⟨β, off, none⟩ 2 sc cs hcl rfl (fun j v hj => by rw [Addr.add_lit]; exact hcs j v hj)
      (fun j hj => by rw [Nat.add_assoc]; exact hsp _ (by omega)) (fun j hj => by rw [Nat.add_assoc]; exact hfz _ (by omega)) h1c
  obtain ⟨W1, hW1⟩ : ∃ W1, W1 = w.drew.setCells β (off + 12) cs := ⟨_, rfl⟩
  have hsp1 : ∀ k, k < 24 → (W1.cell? ⟨β, off + k, none⟩).isSome = true := fun k hk => by
    rw [hW1]
    by_cases hin : off + 12 ≤ off + k ∧ off + k < off + 12 + cs.length
    · have := World.cell?_setCells_in β cs (off + 12) w.drew (fun j hj => by rw [Nat.add_assoc]; exact hsp _ (by omega)) (k - 12) (by omega)
      rw [show off + 12 + (k - 12) = off + k by omega] at this
      rw [this]; rfl
    · rw [World.cell?_setCells_out β cs (off + 12) w.drew ⟨β, off + k, none⟩ (fun _ _ => by show off + k < off + 12 ∨ off + 12 + cs.length ≤ off + k; omega)]
      exact hsp k hk
  have hcp2 : ∀ ty dc, (Builtin.copy_ #[44, 44] ty #[.slice (some ⟨β, off, none⟩) 2 dc, .slice (some ⟨β2, off2, none⟩) 1 vc]).run Tryz.prog W1 = .ok (goInt 1) (W1.setCells β off vs) := fun ty dc =>
    run_copy_one W1 ty β off 2 dc ⟨β2, off2, none⟩ 1 vc vs hvl rfl
      (fun j v hj => by
        rw [Addr.add_lit, hW1, World.cell?_setCells_out β _ _ _ _ (fun h _ => absurd h hne)]
        exact hvs j v hj)
      (fun j hj => hsp1 _ (by omega)) (fun j hj => by rw [hW1, World.frozen?_setCells]; exact hfz _ (by omega)) h1v
  rw [← hW1] at hcp1 ⊢
  clear hW1 hsp1
  go_enter Tryz.func98, Tryz.ntmps98
  go_wp2_with (simp only [hov])
  have hw1 : IntKind.i64.wrap 1 = 1 := by rw [IntKind.wrap_i64]; rfl
  have hb2 : ¬ (c = (1 : Int).toNat) := by show ¬ (c = 1); omega
  have hb3 : ¬ (c = 1) := by omega
  have hb4 : ¬ (c = 0) := by omega
  go_region_law (refine step_copy_is rfl _ _ 44 44 rfl _ _ (by simp [Act.eval, Act.put]) (by simp [Act.eval, Act.put]) (hcp1 _ _ _) ?_)
  go_wp2_with (at_builtin; refine wpList_copy_is _ rfl _ _ 44 44 rfl _ _ rfl rfl (hcp2 _ _) ?_)
  go_ret
  exact ⟨rfl, rfl⟩

theorem ins_grow (β off β2 off2 vc : Nat) (cs vs : List Value) (w : World) (hcl : cs.length = 12) (hvl : vs.length = 12)
    (hcs : ∀ j v, cs[j]? = some v → w.cell? ⟨β, off + j, none⟩ = some v)
    (hvs : ∀ j v, vs[j]? = some v → w.cell? ⟨β2, off2 + j, none⟩ = some v) (h1c : ∀ v ∈ cs, v.oneCell' = true) (h1v : ∀ v ∈ vs, v.oneCell' = true) :
    Calls Tryz.prog 98 #[.slice (some ⟨β, off, none⟩) 1 1, .int .i64 0, .slice (some ⟨β2, off2, none⟩) 1 vc] w fun e w' =>
      ∃ (G : Nat) (ROW : Array Value), 2 ≤ G ∧ ROW.size = G * 12 ∧ e = .returned (.slice (some ⟨w.heap.size, 0, none⟩) 2 G) ∧
      w' = (((w.drew.alloc (.cells ROW 113)).setCells w.heap.size 0 vs).drew).setCells w.heap.size 12 cs := by
  have mixed : Tryz.prog.follows .mixedOrders = true := by kernel_rfl
  obtain ⟨i0, hi0, hz0, hzs, hzb⟩ := info_parts info113
  have hbw : β < w.heap.size := World.block_lt_of_cell? w ⟨β, off + 0, none⟩ (hcs 0 (cs[0]'(by omega)) (List.getElem?_eq_getElem (by omega)))
  have hvw : β2 < w.heap.size := World.block_lt_of_cell? w ⟨β2, off2 + 0, none⟩ (hvs 0 (vs[0]'(by omega)) (List.getElem?_eq_getElem (by omega)))
  have hold : (Builtin.firstCells i0.size 0 (.slice (some ⟨β, off, none⟩) 0 1)).run Tryz.prog w.drew = .ok ([] : List Value).toArray w.drew := by
    rw [hzs]
    exact run_firstCells_some w.drew 12 0 ⟨β, off, none⟩ 0 1 [] rfl (fun j v hj => by cases hj)
  have hrz0 := fun ty => Lib.run_append_grow_zeros w 44 3 ty 113 i0 _ .i64 .i64 Tryz.underlying44 Tryz.underlying3 hi0 hz0 (some ⟨β, off, none⟩) 0 1 [] hold 2 (by omega) (by omega) (by omega) (by omega) (by rw [hzb]; omega) (by rw [hzb]; exact growslice_fits (by omega) (by omega))
  obtain ⟨G, hG⟩ : ∃ G, G = grownCap w (0 + 2) 1 113 := ⟨_, rfl⟩
  have hGn : 2 ≤ G := by rw [hG]; exact grownCap_ge w _ _ _
  have hG63 : G ≤ 9223372036854775807 := by
    have := grownCap_le_maxLen w (0 + 2) 1 113 (by unfold maxLen; omega)
    rw [← hG] at this
    unfold maxLen at this
    omega
  rw [← hG] at hrz0
  obtain ⟨ROW, hROW⟩ : ∃ ROW : Array Value, ROW = ([] : List Value).toArray ++ Builtin.zeroCells (Value.agg #[.string ⟨#[]⟩, .string ⟨#[]⟩, .int .i64 0, .int .i64 0, .int .i64 0, .int .i64 0, .int .i64 0, .int .i64 0, .int .i64 0, .int .i64 0, .int .i64 0, .int .i64 0]).cells 2 ++ Builtin.zeroCells (Value.agg #[.string ⟨#[]⟩, .string ⟨#[]⟩, .int .i64 0, .int .i64 0, .int .i64 0, .int .i64 0, .int .i64 0, .int .i64 0, .int .i64 0, .int .i64 0, .int .i64 0, .int .i64 0]).cells (G - (0 + 2)) := ⟨_, rfl⟩
  rw [← hROW] at hrz0
  have hRs : ROW.size = G * 12 := by
    rw [hROW, Array.size_append, Array.size_append, size_zeroCells, size_zeroCells]
    simp [Value.cells]
    omega
  obtain ⟨W1, hW1⟩ : ∃ W1, W1 = w.drew.alloc (.cells ROW 113) := ⟨_, rfl⟩
  rw [← hW1] at hrz0
  have hrz : ∀ ty, (Builtin.append_ #[44, 3] ty #[.slice (some ⟨β, off, none⟩) 0 1, .int .i64 2]).run Tryz.prog w = .ok (.slice (some ⟨w.heap.size, 0, none⟩) 2 G) W1 := hrz0
  have hN : ∀ j, j < 24 → (W1.cell? ⟨w.heap.size, j, none⟩).isSome = true := fun j hj => by
    rw [hW1, World.cell?_alloc_at (w := w.drew) ROW _ w.heap.size j rfl, Array.getElem?_eq_getElem (by omega)]; rfl
  have hNf : ∀ j, W1.frozen? ⟨w.heap.size, j, none⟩ = false := fun j => by rw [hW1]; exact World.frozen?_alloc_at (w := w.drew) ROW _ w.heap.size j rfl
  have hOb : ∀ j v, w.cell? ⟨β, j, none⟩ = some v → W1.cell? ⟨β, j, none⟩ = some v := fun j v h => by rw [hW1, World.cell?_alloc_past (w := w.drew) _ β j hbw]; exact h
  have hOv : ∀ j v, w.cell? ⟨β2, j, none⟩ = some v → W1.cell? ⟨β2, j, none⟩ = some v := fun j v h => by rw [hW1, World.cell?_alloc_past (w := w.drew) _ β2 j hvw]; exact h
  have hcpA : ∀ ty dc, (Builtin.copy_ #[44, 44] ty #[.slice (some ⟨w.heap.size, 0, none⟩) 2 dc, .slice (some ⟨β2, off2, none⟩) 1 vc]).run Tryz.prog W1 = .ok (goInt 1) (W1.setCells w.heap.size 0 vs) := fun ty dc =>
    run_copy_one W1 ty w.heap.size 0 2 dc ⟨β2, off2, none⟩ 1 vc vs hvl rfl (fun j v hj => by rw [Addr.add_lit]; exact hOv _ v (hvs j v hj))
      (fun j hj => by rw [Nat.zero_add]; exact hN _ (by omega)) (fun j hj => hNf _) h1v
  obtain ⟨W2, hW2⟩ : ∃ W2, W2 = (W1.setCells w.heap.size 0 vs).drew := ⟨_, rfl⟩
  have hN2 : ∀ j, j < 24 → (W2.cell? ⟨w.heap.size, j, none⟩).isSome = true := fun j hj => by
    rw [hW2]
    show ((W1.setCells w.heap.size 0 vs).cell? ⟨w.heap.size, j, none⟩).isSome = true
    by_cases hin : j < vs.length
    · have := World.cell?_setCells_in w.heap.size vs 0 W1 (fun j hj => by rw [Nat.zero_add]; exact hN _ (by omega)) j hin
      rw [Nat.zero_add] at this
      rw [this]; rfl
    · rw [World.cell?_setCells_out w.heap.size vs 0 W1 ⟨w.heap.size, j, none⟩ (fun _ _ => by show j < 0 ∨ 0 + vs.length ≤ j; omega)]
      exact hN j hj
  have hcpB : ∀ ty dc sc, (Builtin.copy_ #[44, 44] ty #[.slice (some ⟨w.heap.size, 12, none⟩) 1 dc, .slice (some ⟨β, off, none⟩) 1 sc]).run Tryz.prog W2 = .ok (goInt 1) (W2.setCells w.heap.size 12 cs) := fun ty dc sc =>
    run_copy_one W2 ty w.heap.size 12 1 dc ⟨β, off, none⟩ 1 sc cs hcl rfl
      (fun j v hj => by
        rw [Addr.add_lit, hW2]
        show (W1.setCells w.heap.size 0 vs).cell? ⟨β, off + j, none⟩ = some v
        rw [World.cell?_setCells_out _ _ _ _ _ (fun h _ => absurd (show β = w.heap.size from h) (by omega))]
        exact hOb _ v (hcs j v hj))
      (fun j hj => hN2 _ (by omega)) (fun j hj => by rw [hW2]; show (W1.setCells w.heap.size 0 vs).frozen? _ = false; rw [World.frozen?_setCells]; exact hNf _) h1c
  have fin : ∀ (e : Ending) (w' : World), e = .returned (.slice (some ⟨w.heap.size, 0, none⟩) 2 G) → w' = W2.setCells w.heap.size 12 cs → ∃ (G : Nat) (ROW : Array Value), 2 ≤ G ∧ ROW.size = G * 12 ∧ e = .returned (.slice (some ⟨w.heap.size, 0, none⟩) 2 G) ∧
      w' = (((w.drew.alloc (.cells ROW 113)).setCells w.heap.size 0 vs).drew).setCells w.heap.size 12 cs := fun e w' he hw => ⟨G, ROW, hGn, hRs, he, by rw [hw, hW2, hW1]⟩
  have FIN := Lib.hid fin
  have hw1 : IntKind.i64.wrap 1 = 1 := by rw [IntKind.wrap_i64]; rfl
  have hGi : ¬ (G = 1) := by omega
  have hGi2 : ¬ (G = (1 : Int).toNat) := by show ¬ (G = 1); omega
  have hG0 : ¬ (G = 0) := by omega
  clear fin hrz0 hold hRs hROW hG hN hNf hN2 hOb hOv hi0 hz0 hzs hzb
  have hW2' : (W1.setCells w.heap.size 0 vs).drew = W2 := hW2.symm
  clear hW1 hW2
  go_enter Tryz.func98, Tryz.ntmps98
  go_wp2_with (first
    | (at_builtin; refine Lib.wpList_append_run _ rfl _ _ _ _ rfl _ _ rfl rfl _ _ (hrz _) ?_)
    | (at_builtin; refine wpList_copy_is _ rfl _ _ 44 44 rfl _ _ rfl rfl (hcpA _ _) ?_))
  rw [← hW2'] at hcpB
  go_region_law (refine step_copy_is rfl _ _ 44 44 rfl (.slice (some ⟨w.heap.size, 12, none⟩) 1 (G - 1)) (.slice (some ⟨β, off, none⟩) 1 1) (by simp [Act.eval, Act.put, hw1, hGi]) (by simp [Act.eval, Act.put]) (hcpB 3 (G - 1) 1) ?_)
  go_wp2_with fail
  go_ret
  exact FIN.out _ _ rfl (by rw [← hW2'])
end Go.Proofs.YtlbnfcpdmngjkaaGreatDoor
end
section
namespace Go.Proofs.YtlbnfcpdmngjkaaGreatDoor
open Go Go.Proofs Go.RowKit Go.Lib
set_option maxRecDepth 100000
set_option linter.unusedSimpArgs false
set_option linter.unusedVariables false
set_option maxHeartbeats 1000000

theorem shape_of {w : World} {β i : Nat} (h : (w.cell? ⟨β, i, none⟩).isSome = true) : ∃ T k, w.shape? β = some (T, k) ∧ i < k := by
  unfold World.cell? at h
  unfold World.shape?
  split at h
  · rename_i c T fz hb
    have hb : w.heap[β]? = some (.cells c T fz) := hb
    rw [hb]
    refine ⟨T, c.size, rfl, ?_⟩
    simp only [Option.isSome_none, Bool.false_eq_true, if_false] at h
    by_cases hi : i < c.size
    · exact hi
    · rw [Array.getElem?_eq_none (by omega)] at h
      cases h
  · cases h
theorem push_setCells (h : Array Obj) (T : TypeId) (fz : Nat × Nat) : ∀ (l : List Value) (o : Nat) (w : World) (cs : Array Value), w.heap = h.push (.cells cs T fz) → ∃ cs', (w.setCells h.size o l).heap = h.push (.cells cs' T fz) ∧ cs'.size = cs.size
  | [], o, w, cs, hw => ⟨cs, hw, rfl⟩
  | v :: r, o, w, cs, hw => by
    have h1 : (w.setCell ⟨h.size, o, none⟩ v).heap = h.push (.cells (cs.setIfInBounds o v) T fz) := by
      unfold World.setCell
      simp only [hw]
      apply Array.ext_getElem?
      intro i
      rw [Array.getElem?_modify, Array.getElem?_push, Array.getElem?_push]
      by_cases hi : i = h.size
      · subst hi; simp
      · rw [if_neg (fun e => hi e.symm), if_neg hi, if_neg hi]
    obtain ⟨cs', a, b⟩ := push_setCells h T fz r (o + 1) _ _ h1
    exact ⟨cs', a, by rw [b]; simp⟩
/-- The values that the runner's cells are. -/
theorem vals_of {E : Ex.Env} {γ : Ex.Cx} {N : Nat} {H : Ex.AH} {w : World} (h : Ex.Rel E γ N H.bs.get w) {b o n : Nat} {l : List Ex.AV} (hl : Ex.loadA H b o n = some l) {β ω σ : Nat} (hb : γ.loc b = some (β, ω, σ)) :
    ∃ cs : List Value, cs.length = n ∧ Ex.VRs γ l cs ∧ ∀ j v, cs[j]? = some v → w.cell? ⟨β, ω + o + j, none⟩ = some v := by
  obtain ⟨h1, h2⟩ := Ex.loadA_cells h hl hb
  have hg : ∀ i, i < n → ((List.range n).map fun j => (w.cell? ⟨β, ω + o + j, none⟩).getD undef)[i]? = some ((w.cell? ⟨β, ω + o + i, none⟩).getD undef) := fun i hi => by simp [hi]
  refine ⟨(List.range n).map fun j => (w.cell? ⟨β, ω + o + j, none⟩).getD undef, by simp, Ex.VRs.of_get (by simp [h1]) (fun i x y hx hy => ?_), fun j v hj => ?_⟩
  · have hi : i < n := by have := (List.getElem?_eq_some_iff.1 hx).1; omega
    obtain ⟨v, a, c⟩ := h2 i x hx
    rw [hg i hi, a] at hy
    simp only [Option.getD_some, Option.some.injEq] at hy
    subst hy
    exact c
  · have hi : j < n := by have := (List.getElem?_eq_some_iff.1 hj).1; simpa using this
    obtain ⟨x, hx⟩ : ∃ x, l[j]? = some x := ⟨l[j]'(by omega), by simp⟩
    obtain ⟨v', a, c⟩ := h2 j x hx
    rw [hg j hi, a] at hj
    simp only [Option.getD_some, Option.some.injEq] at hj
    subst hj
    exact a

theorem into_any {E : Ex.Env} {b1 o1 : Nat} {fl1 : Bool} {l1 vA : List Ex.AV} {H : Ex.AH} (hl : Ex.loadA H b1 o1 12 = some l1) (hall : l1.all Ex.okc = true) (hvall : vA.all Ex.okc = true)
    {γ : Ex.Cx} {N : Nat} {w : World} (hrel : Ex.Rel E γ N H.bs.get w) (hN : N ≤ w.heap.size) {s : Value} (hs : Ex.VR γ (.slice b1 o1 1 12 fl1) s) (hfree : γ.loc H.n = none)
    {β2 : Nat} {va : Array Value} {T2 : TypeId} (hv2 : w.heap[β2]? = some (.cells va T2 (0, 0))) (hva : va.size = 12) (hvr : Ex.VRs γ vA va.toList) (hoff : ∀ id k l, H.bs.get id = some k → γ.loc id = some l → l.1 ≠ β2) :
    Calls Tryz.prog 98 #[s, .int .i64 0, .slice (some ⟨β2, 0, none⟩) 1 1] w fun e w' => ∃ v', e = .returned v' ∧ (∃ A c, v' = .slice A 2 c) ∧ ∃ γ', Ex.VR γ' (.slice H.n 0 2 12 false) v' ∧
      Ex.Rel E γ' N ((H.bs.del b1).set H.n ⟨24, Ex.Tr.nil.put 0 (vA ++ l1)⟩).get w' ∧ Ex.Nxt γ H.bs.get w H.n γ' ((H.bs.del b1).set H.n ⟨24, Ex.Tr.nil.put 0 (vA ++ l1)⟩).get w' (H.n + 1) := by
  have hvl : vA.length = 12 := by have := hvr.length; simpa [hva] using this
  obtain ⟨k, hk⟩ : ∃ k, H.bs.get b1 = some k := by
    unfold Ex.loadA at hl
    cases hk : H.bs.get b1 with
    | none => rw [hk] at hl; cases hl
    | some k => exact ⟨k, rfl⟩
  have hl1 : l1.length = 12 := by
    cases hs with
    | slice hb _ _ _ _ => exact (Ex.loadA_cells hrel hl hb).1
  cases hs with
  | slice hloc hle hfull hA hfit =>
  rename_i β ω σ cap A
  have hAd : A = ⟨β, ω + o1, none⟩ := hA (by omega)
  subst hAd
  obtain ⟨cs, hcl, hcr, hcs⟩ := vals_of hrel hl hloc
  obtain ⟨β', ω', σ', hB⟩ := hrel.blk hk
  obtain ⟨rfl, rfl, rfl⟩ := hB.fun hloc
  have hne : β2 ≠ β' := fun e => hoff _ _ _ hk hloc e.symm
  have hvs : ∀ j v, va.toList[j]? = some v → w.cell? ⟨β2, 0 + j, none⟩ = some v := fun j v hj => by
    rw [Nat.zero_add, cell_of_row w β2 j va T2 (0, 0) hv2]
    simpa using hj
  have h1c : ∀ v ∈ cs, v.oneCell' = true := hcr.oneCell hall
  have h1v : ∀ v ∈ va.toList, v.oneCell' = true := hvr.oneCell hvall
  have hvl' : va.toList.length = 12 := by simpa using hva
  by_cases hroom : 2 ≤ cap
  · -- there is room
    have hcap : 2 * 12 ≤ cap * 12 := Nat.mul_le_mul_right _ hroom
    have hth : ∀ j, j < 24 → (w.cell? ⟨β', ω' + o1 + j, none⟩).isSome = true ∧ w.frozen? ⟨β', ω' + o1 + j, none⟩ = false := fun j hj => hB.there _ (by omega)
    obtain ⟨tB, kB, hsb, hkB⟩ := shape_of (hth 0 (by omega)).1
    have hsa : w.shape? β2 = some (T2, va.size) := by unfold World.shape?; rw [hv2]
    have hfr : ∀ i, w.frozen? ⟨β2, i, none⟩ = false := fun i => by unfold World.frozen?; simp only [hv2]; simp
    refine (ins_room β' (ω' + o1) cap β2 0 1 cs va.toList w hroom hne hcl hvl' hcs (fun j hj => (hth j hj).1) (fun j hj => (hth j hj).2) hvs h1c h1v T2 tB va.size kB hsa hsb (by omega) (hfr _) (hfr _)).mono ?_
    rintro e w' ⟨rfl, rfl⟩
    have hle' := Ex.Cx.le_bind (β', ω' + o1, σ') hfree
    have hin : ∀ j, j < cs.length → (w.drew.cell? ⟨β', ω' + o1 + 12 + j, none⟩).isSome = true := fun j hj => by
      rw [Nat.add_assoc (ω' + o1)]; exact (hth _ (by omega)).1
    have hin2 : ∀ j, j < va.toList.length → ((w.drew.setCells β' (ω' + o1 + 12) cs).cell? ⟨β', ω' + o1 + j, none⟩).isSome = true := fun j hj => by
      rw [World.cell?_setCells_out β' cs _ w.drew _ (fun _ _ => by simp only; omega)]
      exact (hth j (by omega)).1
    have hcellv : ∀ i, i < 12 → ((w.drew.setCells β' (ω' + o1 + 12) cs).setCells β' (ω' + o1) va.toList).cell? ⟨β', ω' + o1 + i, none⟩ = va.toList[i]? := fun i hi => by
      rw [World.cell?_setCells_in β' va.toList _ _ hin2 i (by omega)]
      simp
    have hcellc : ∀ i, 12 ≤ i → i < 24 → ((w.drew.setCells β' (ω' + o1 + 12) cs).setCells β' (ω' + o1) va.toList).cell? ⟨β', ω' + o1 + i, none⟩ = cs[i - 12]? := fun i h1 h2 => by
      rw [World.cell?_setCells_out β' va.toList _ _ _ (fun _ _ => by simp only; omega), show ω' + o1 + i = ω' + o1 + 12 + (i - 12) by omega, World.cell?_setCells_in β' cs _ w.drew hin _ (by omega)]
      simp
    have hcello : ∀ i, i < ω' + o1 ∨ ω' + o1 + 24 ≤ i → ((w.drew.setCells β' (ω' + o1 + 12) cs).setCells β' (ω' + o1) va.toList).cell? ⟨β', i, none⟩ = w.cell? ⟨β', i, none⟩ := fun i hi => by
      rw [World.cell?_setCells_out β' va.toList _ _ _ (fun _ _ => by simp only; omega), World.cell?_setCells_out β' cs _ w.drew _ (fun _ _ => by simp only; omega)]
      rfl
    have hRB : Ex.RelB (γ.bind H.n (β', ω' + o1, σ')) ((w.drew.setCells β' (ω' + o1 + 12) cs).setCells β' (ω' + o1) va.toList) H.n ⟨24, Ex.Tr.nil.put 0 (vA ++ l1)⟩ β' (ω' + o1) σ' := by
      refine ⟨Ex.Cx.bind_same _ _ _, by simp only; omega, fun i hi => ?_, fun i hi => ?_⟩
      · rw [World.frozen?_setCells, World.frozen?_setCells]
        refine ⟨?_, (hB.there i hi).2⟩
        by_cases h1 : i < ω' + o1 ∨ ω' + o1 + 24 ≤ i
        · rw [hcello i h1]; exact (hB.there i hi).1
        · obtain ⟨j, rfl⟩ : ∃ j, i = ω' + o1 + j := ⟨i - (ω' + o1), by omega⟩
          by_cases h2 : j < 12
          · rw [hcellv j h2, List.getElem?_eq_getElem (by omega)]; rfl
          · rw [hcellc j (by omega) (by omega), List.getElem?_eq_getElem (by omega)]; rfl
      · simp only at hi
        by_cases h2 : i < 12
        · obtain ⟨x, hx⟩ : ∃ x, vA[i]? = some x := ⟨vA[i]'(by omega), by simp⟩
          obtain ⟨v, v1, v2⟩ := hvr.get i hx
          refine ⟨v, x, ?_, List.all_eq_true.1 hvall x (List.mem_of_getElem? hx), (hcellv i h2).trans v1, v2.mono hle'⟩
          simp only
          rw [Ex.Tr.get_put, if_pos (by simp; omega), Nat.sub_zero, List.getElem?_append_left (by omega)]
          exact hx
        · obtain ⟨x, hx⟩ : ∃ x, l1[i - 12]? = some x := ⟨l1[i - 12]'(by omega), by simp⟩
          obtain ⟨v, v1, v2⟩ := hcr.get (i - 12) hx
          refine ⟨v, x, ?_, List.all_eq_true.1 hall x (List.mem_of_getElem? hx), (hcellc i (by omega) hi).trans v1, v2.mono hle'⟩
          simp only
          rw [Ex.Tr.get_put, if_pos (by simp; omega), Nat.sub_zero, List.getElem?_append_right (by omega), hvl]
          exact hx
    have hR := Ex.rel_rename (id := H.n) (w' := (w.drew.setCells β' (ω' + o1 + 12) cs).setCells β' (ω' + o1) va.toList) hrel hk hloc hfree (by rw [Ex.size_setCells, Ex.size_setCells]; rfl) (fun i hi => by rw [Ex.heap_setCells _ _ _ _ _ hi, Ex.heap_setCells _ _ _ _ _ hi]; rfl) hRB
      ((Ex.Same.trans (w := w) (w' := w.drew) ⟨rfl, rfl, rfl⟩ (Ex.same_setCells _ _ _ _)).trans (Ex.same_setCells _ _ _ _))
    have hfun : Ex.hset (fun j => if j = b1 then none else H.bs.get j) H.n ⟨24, Ex.Tr.nil.put 0 (vA ++ l1)⟩ = ((H.bs.del b1).set H.n ⟨24, Ex.Tr.nil.put 0 (vA ++ l1)⟩).get := by
      rw [Ex.Tr.get_set_fun]
      congr 1
      funext j
      by_cases hj : j = b1
      · subst hj; rw [if_pos rfl, Ex.Tr.get_del_same]
      · rw [if_neg hj, Ex.Tr.get_del_ne _ (Ne.symm hj)]
    rw [hfun] at hR
    exact ⟨_, rfl, ⟨_, _, rfl⟩, _, .slice (Ex.Cx.bind_same _ _ _) hroom (by simp) (fun _ => by simp) (by omega), hR.1, hR.2⟩
  · -- there is none
    obtain rfl : cap = 1 := by omega
    refine (ins_grow β' (ω' + o1) β2 0 1 cs va.toList w hcl hvl' hcs hvs h1c h1v).mono ?_
    rintro e w' ⟨G, ROW, hG, hROW, rfl, rfl⟩
    have hp0 : (w.drew.alloc (.cells ROW 113)).heap = w.heap.push (.cells ROW 113 (0, 0)) := rfl
    obtain ⟨c1, p1, s1⟩ := push_setCells w.heap 113 (0, 0) va.toList 0 _ _ hp0
    obtain ⟨c2, p2, s2⟩ := push_setCells w.heap 113 (0, 0) cs 12 (((w.drew.alloc (.cells ROW 113)).setCells w.heap.size 0 va.toList).drew) c1 p1
    generalize hW : ((((w.drew.alloc (.cells ROW 113)).setCells w.heap.size 0 va.toList).drew).setCells w.heap.size 12 cs) = W at *
    have hcell : ∀ i, W.cell? ⟨w.heap.size, i, none⟩ = c2[i]? := fun i => by
      unfold World.cell?
      simp [p2]
    have hN0 : ∀ j, j < 24 → ((w.drew.alloc (.cells ROW 113)).cell? ⟨w.heap.size, j, none⟩).isSome = true := fun j hj => by
      rw [World.cell?_alloc_at (w := w.drew) ROW _ w.heap.size j rfl, Array.getElem?_eq_getElem (by omega)]; rfl
    have hcellv : ∀ i, i < 12 → W.cell? ⟨w.heap.size, i, none⟩ = va.toList[i]? := fun i hi => by
      rw [← hW, World.cell?_setCells_out w.heap.size cs 12 _ _ (fun _ _ => by simp only; omega)]
      have := World.cell?_setCells_in w.heap.size va.toList 0 (w.drew.alloc (.cells ROW 113)) (fun j hj => by rw [Nat.zero_add]; exact hN0 _ (by omega)) i (by omega)
      rw [Nat.zero_add] at this
      show ((w.drew.alloc (.cells ROW 113)).setCells w.heap.size 0 va.toList).cell? ⟨w.heap.size, i, none⟩ = _
      rw [this]
      simp
    have hN2 : ∀ j, j < cs.length → ((((w.drew.alloc (.cells ROW 113)).setCells w.heap.size 0 va.toList).drew).cell? ⟨w.heap.size, 12 + j, none⟩).isSome = true := fun j hj => by
      show (((w.drew.alloc (.cells ROW 113)).setCells w.heap.size 0 va.toList).cell? ⟨w.heap.size, 12 + j, none⟩).isSome = true
      rw [World.cell?_setCells_out w.heap.size va.toList 0 _ _ (fun _ _ => by simp only; omega)]
      exact hN0 _ (by omega)
    have hcellc : ∀ i, 12 ≤ i → i < 24 → W.cell? ⟨w.heap.size, i, none⟩ = cs[i - 12]? := fun i h1 h2 => by
      have := World.cell?_setCells_in w.heap.size cs 12 _ hN2 (i - 12) (by omega)
      rw [show 12 + (i - 12) = i by omega, hW] at this
      rw [this]
      simp
    have hst : Ex.Same w W := by
      rw [← hW]
      exact Ex.Same.trans (w' := ((w.drew.alloc (.cells ROW 113)).setCells w.heap.size 0 va.toList).drew) (Ex.Same.trans (w' := (w.drew.alloc (.cells ROW 113)).setCells w.heap.size 0 va.toList) (Ex.Same.trans (w := w) (w' := w.drew.alloc (.cells ROW 113)) ⟨rfl, rfl, rfl⟩ (Ex.same_setCells _ _ _ _)) ⟨rfl, rfl, rfl⟩) (Ex.same_setCells _ _ _ _)
    have hdel : ∀ id k, (H.bs.del b1).get id = some k → H.bs.get id = some k := fun id k e => (Ex.Tr.get_del_some _ e).2
    have hvl2 : (va.toList ++ cs).length = 24 := by rw [List.length_append]; omega
    have hR := Ex.rel_new (id := H.n) (w' := W) (cs := c2) (T := 113) (fz := (0, 0)) (l := vA ++ l1) (vs := va.toList ++ cs) (hrel.less (H' := (H.bs.del b1).get) hdel) hN hfree p2 (fun i hi => by simp) (hvr.append hcr)
      (by rw [List.all_append, hvall, hall]; rfl) (by rw [hvl2]; omega) (fun i hi => by
        rw [hvl2] at hi
        rw [← hcell i]
        by_cases h2 : i < 12
        · rw [hcellv i h2, List.getElem?_append_left (by omega)]
        · rw [hcellc i (by omega) hi, List.getElem?_append_right (by omega), hvl']) hst
    have hlen : (vA ++ l1).length = 24 := by rw [List.length_append]; omega
    rw [hlen, ← Ex.Tr.get_set_fun] at hR
    have hX := hR.2
    refine ⟨_, rfl, ⟨_, _, rfl⟩, _, .slice (Ex.Cx.bind_same _ _ _) hG (by simp) (fun _ => by simp) (by omega), hR.1, ⟨hX.le, hX.size, fun β hβ hf => hX.keep β hβ (fun id k' l' e1 e2 => hf id k' l' (hdel _ _ e1) e2), fun {id k' l'} e1 e2 => ?_, hX.dom, hX.num, hX.still, fun {id k'} e1 => ?_⟩⟩
    · rcases hX.img e1 e2 with q | ⟨j, k0, l0, a, b, c⟩
      · exact .inl q
      · exact .inr ⟨j, k0, l0, hdel _ _ a, b, c⟩
    · rcases hX.new e1 with ⟨k0, a⟩ | q
      · exact .inl ⟨k0, hdel _ _ a⟩
      · exact .inr q
end Go.Proofs.YtlbnfcpdmngjkaaGreatDoor
end
section
namespace Go.Proofs.YtlbnfcpdmngjkaaGreatDoor
open Go Go.Proofs Go.RowKit Go.Lib
set_option maxRecDepth 100000
set_option linter.unusedSimpArgs false
set_option linter.unusedVariables false
set_option maxHeartbeats 1000000

theorem vrs_cons {γ : Ex.Cx} {a : Ex.AV} {l : List Ex.AV} {m : List Value} (h : Ex.VRs γ (a :: l) m) : ∃ x m', m = x :: m' ∧ Ex.VR γ a x ∧ Ex.VRs γ l m' := by
  cases h with
  | cons x y => exact ⟨_, _, rfl, x, y⟩
theorem vrs_nil {γ : Ex.Cx} {m : List Value} (h : Ex.VRs γ [] m) : m = [] := by cases h; rfl
theorem vr_agg {γ : Ex.Cx} {l : List Ex.AV} {v : Value} (h : Ex.VR γ (.agg l) v) : ∃ m : List Value, v = .agg m.toArray ∧ Ex.VRs γ l m := by
  cases h with
  | agg x => exact ⟨_, by simp, x⟩
theorem vr_agg2 {γ : Ex.Cx} {a b : Ex.AV} {v : Value} (h : Ex.VR γ (.agg [a, b]) v) : ∃ x y, v = .agg #[x, y] ∧ Ex.VR γ a x ∧ Ex.VR γ b y := by
  obtain ⟨m, rfl, h0⟩ := vr_agg h
  obtain ⟨x, m, rfl, hx, h1⟩ := vrs_cons h0
  obtain ⟨y, m, rfl, hy, h2⟩ := vrs_cons h1
  obtain rfl := vrs_nil h2
  exact ⟨x, y, rfl, hx, hy⟩
theorem vr_agg3 {γ : Ex.Cx} {a b c : Ex.AV} {v : Value} (h : Ex.VR γ (.agg [a, b, c]) v) : ∃ x y z, v = .agg #[x, y, z] ∧ Ex.VR γ a x ∧ Ex.VR γ b y ∧ Ex.VR γ c z := by
  obtain ⟨m, rfl, h0⟩ := vr_agg h
  obtain ⟨x, m, rfl, hx, h1⟩ := vrs_cons h0
  obtain ⟨y, m, rfl, hy, h2⟩ := vrs_cons h1
  obtain ⟨z, m, rfl, hz, h3⟩ := vrs_cons h2
  obtain rfl := vrs_nil h3
  exact ⟨x, y, z, rfl, hx, hy, hz⟩
theorem fresh_next {γ γ1 : Ex.Cx} {H H1 : Ex.HM} {w w1 : World} {n n1 m : Nat} (h : Ex.Nxt γ H w n γ1 H1 w1 n1) (hf : ∀ id, n ≤ id → id < m → γ.loc id = none) : ∀ id, n1 ≤ id → id < m → γ1.loc id = none := fun id h1 h2 => by
  cases hl : γ1.loc id with
  | none => rfl
  | some l =>
    have hn := h.num
    rcases h.dom hl with ⟨l0, h0⟩ | ⟨a, b⟩
    · rw [hf id (by omega) h2] at h0; cases h0
    · omega
theorem create_any {E : Ex.Env} (hP : E.P = Tryz.prog) {call : Ex.CallF} (hc : Ex.CallOk E call) (hnum : Ex.NumOk call) {b o b1 o1 : Nat} {fl fl1 : Bool} {p q r : Ex.AV} {rest l1 : List Ex.AV} {H H1 H2 H3 : Ex.AH}
    (h1 : call 96 [.slice b o 1 12 fl, .str [97]] H = some (.agg [.slice b1 o1 1 12 fl1, .int .i64 (-1)], H1))
    (h2 : call 43 [.agg [p, q, r]] H1 = some (.bool true, H2))
    (h3 : call 97 [.agg [.slice b1 o1 1 12 fl1, .int .i64 (-1)], .str []] H2 = some (.bool true, H3))
    (h4 : Ex.loadA H3 b o 12 = some (.str [98] :: rest)) (h5 : Ex.loadA H3 b1 o1 12 = some l1) (hall : l1.all Ex.okc = true) (hpo : Ex.okc p = true) (hqo : Ex.okc q = true) (hro : Ex.okc r = true)
    {γ : Ex.Cx} {N : Nat} {w : World} (hrel : Ex.Rel E γ N H.bs.get w) (hN : N ≤ w.heap.size) {s : Value} (hs : Ex.VR γ (.slice b o 1 12 fl) s) {p' q' r' : Value} (hp : Ex.VR γ p p') (hq : Ex.VR γ q q') (hr : Ex.VR γ r r')
    (hf : ∀ id, H.n ≤ id → id < H3.n + 1 → γ.loc id = none) :
    Calls Tryz.prog 53 #[s, .string ⟨#[97]⟩, .string ⟨#[]⟩, .agg #[p', q', r']] w fun e w' => ∃ v', e = .returned v' ∧ ∃ γ', Ex.VR γ' (.tup [.slice H3.n 0 2 12 false, .int .i64 0]) v' ∧
      Ex.Rel E γ' N ((H3.bs.del b1).set H3.n ⟨24, Ex.Tr.nil.put 0 ([.str [97], .str [], p, q, r, .int .i64 0, .int .i64 0, .int .i64 0, .int .i64 0, .int .i64 0, .int .i64 0, .int .i64 1] ++ l1)⟩).get w' ∧
      Ex.Nxt γ H.bs.get w H.n γ' ((H3.bs.del b1).set H3.n ⟨24, Ex.Tr.nil.put 0 ([.str [97], .str [], p, q, r, .int .i64 0, .int .i64 0, .int .i64 0, .int .i64 0, .int .i64 0, .int .i64 0, .int .i64 1] ++ l1)⟩).get w' (H3.n + 1) := by
  have n1 := hnum h1
  have n2 := hnum h2
  have n3 := hnum h3
  have op := hp.oneCell hpo
  have oq := hq.oneCell hqo
  have or' := hr.oneCell hro
  have hW1 : Below w.heap.size w (w.alloc (.cells #[p', q', r'] 37)) := (Below.refl w.heap.size w).alloc (Nat.le_refl _) _
  have hrel1 : Ex.Rel E γ N H.bs.get (w.alloc (.cells #[p', q', r'] 37)) :=
    hrel.aside (D := w.heap.size) (Ex.Aside.of_below hW1) (fun id k l hk hl e => by have := (hrel.low hl).2; omega) hN hN
  have HS := Lib.hid hs
  have HREL := Lib.hid hrel
  have HREL1 := Lib.hid hrel1
  have HF := Lib.hid hf
  have HP := Lib.hid hp
  have HQ := Lib.hid hq
  have HR := Lib.hid hr
  clear hrel1 hf hp hq hr hs hrel
  go_enter Tryz.func53, Tryz.ntmps53
  go_wp2_with fail
  refine (said hP hc Tryz.func96 (by kernel_rfl) (by decide) h1 HREL1.out (by simp; omega) (.cons HS.out (.cons (.str [97]) .nil)) (fun id a b => HF.out id a (by omega))).mono ?_
  rintro e w2 ⟨v, rfl, γ1, hv, hrel2, hnx1⟩
  obtain ⟨s1, y, rfl, hs1, hy⟩ := vr_agg2 hv
  cases hy
  obtain ⟨A1, c1, rfl⟩ : ∃ A c, s1 = .slice A 1 c := by cases hs1; exact ⟨_, _, rfl⟩
  have hoff : ∀ id k l, H.bs.get id = some k → γ.loc id = some l → l.1 ≠ w.heap.size := fun id k l hk hl e => by have := (HREL.out.low hl).2; omega
  have hkeep := hnx1.keep w.heap.size (by simp) hoff
  have hoff1 : ∀ id k l, H1.bs.get id = some k → γ1.loc id = some l → l.1 ≠ w.heap.size := Ex.off_made hnx1 (by simp) hoff
  have hN2 : N ≤ w2.heap.size := Nat.le_trans (by simp; omega) hnx1.size
  have hlt2 : w.heap.size < w2.heap.size := by have := hnx1.size; simp at this; omega
  have hW3 : Below w2.heap.size w2 (w2.alloc (.cells #[.slice A1 1 c1, .int .i64 (-1)] 176)) := (Below.refl w2.heap.size w2).alloc (Nat.le_refl _) _
  have k0 : (w2.alloc (.cells #[.slice A1 1 c1, .int .i64 (-1)] 176)).cell? ⟨w.heap.size, 0, none⟩ = some p' := cell_alloc _ ((Ex.cell?_heap hkeep 0).trans (by simp))
  have k1 : (w2.alloc (.cells #[.slice A1 1 c1, .int .i64 (-1)] 176)).cell? ⟨w.heap.size, 1, none⟩ = some q' := cell_alloc _ ((Ex.cell?_heap hkeep 1).trans (by simp))
  have k2 : (w2.alloc (.cells #[.slice A1 1 c1, .int .i64 (-1)] 176)).cell? ⟨w.heap.size, 2, none⟩ = some r' := cell_alloc _ ((Ex.cell?_heap hkeep 2).trans (by simp))
  have hrel3 : Ex.Rel E γ1 N H1.bs.get (w2.alloc (.cells #[.slice A1 1 c1, .int .i64 (-1)] 176)) :=
    hrel2.aside (D := w2.heap.size) (Ex.Aside.of_below hW3) (fun id k l hk hl e => by have := (hrel2.low hl).2; omega) hN2 hN2
  have hoff2 : ∀ id k l, H1.bs.get id = some k → γ1.loc id = some l → l.1 ≠ w2.heap.size := fun id k l hk hl e => by have := (hrel2.low hl).2; omega
  have HNX1 := Lib.hid ((hnx1.ahead (Ex.Aside.of_below (D := w.heap.size) hW1) (Nat.le_refl _)).aside (Ex.Aside.of_below (D := w2.heap.size) hW3) (by omega))
  have HREL3 := Lib.hid hrel3
  have HS1 := Lib.hid hs1
  have HO1 := Lib.hid hoff1
  have HO2 := Lib.hid hoff2
  have HW3 := Lib.hid hW3
  clear hv hrel2 hrel3 hs1 hoff hoff1 hoff2 hkeep hnx1 hW1 hW3 HREL1
  go_wp2_with fail
  have j0 : (w2.alloc (.cells #[.slice A1 1 c1, .int .i64 (-1)] 176)).cell? ⟨w2.heap.size, 0, none⟩ = some (.slice A1 1 c1) := by simp
  have j1 : (w2.alloc (.cells #[.slice A1 1 c1, .int .i64 (-1)] 176)).cell? ⟨w2.heap.size, 1, none⟩ = some (.int .i64 (-1)) := by simp
  have hlt3 : w2.heap.size < (w2.alloc (.cells #[.slice A1 1 c1, .int .i64 (-1)] 176)).heap.size := by simp
  generalize (w2.alloc (.cells #[.slice A1 1 c1, .int .i64 (-1)] 176)) = w3 at *
  refine (said hP hc Tryz.func43 (by kernel_rfl) (by decide) h2 HREL3.out (by omega) (.cons (.agg (.cons (HP.out.mono HNX1.out.le) (.cons (HQ.out.mono HNX1.out.le) (.cons (HR.out.mono HNX1.out.le) .nil)))) .nil) (fun id a b => fresh_next HNX1.out HF.out id a (by omega))).mono ?_
  rintro e w4 ⟨v, rfl, γ2, hv, hrel4, hnx2⟩
  cases hv
  have hkA := hnx2.keep w.heap.size (by omega) HO1.out
  have hkB := hnx2.keep w2.heap.size (by omega) HO2.out
  have hsz4 := hnx2.size
  have hoA := Lib.hid (Ex.off_made hnx2 (by omega) HO1.out)
  have hoB := Lib.hid (Ex.off_made hnx2 (by omega) HO2.out)
  have k0' := (Ex.cell?_heap hkA 0).trans k0
  have k1' := (Ex.cell?_heap hkA 1).trans k1
  have k2' := (Ex.cell?_heap hkA 2).trans k2
  have j0' := (Ex.cell?_heap hkB 0).trans j0
  have j1' := (Ex.cell?_heap hkB 1).trans j1
  have HNX2 := Lib.hid (HNX1.out.trans hnx2)
  have HREL4 := Lib.hid hrel4
  have HS4 := Lib.hid (HS1.out.mono hnx2.le)
  clear k0 k1 k2 j0 j1 hkA hkB hrel4 hnx2 HREL3 HO1 HO2 HS1 HW3 HNX1
  go_wp2_with fail
  refine (said hP hc Tryz.func97 (by kernel_rfl) (by decide) h3 HREL4.out (by omega) (.cons (.agg (.cons HS4.out (.cons (.int _ _) .nil))) (.cons (.str []) .nil)) (fun id a b => fresh_next HNX2.out HF.out id a (by omega))).mono ?_
  rintro e w5 ⟨v, rfl, γ3, hv, hrel5, hnx3⟩
  cases hv
  have hkA := hnx3.keep w.heap.size (by omega) hoA.out
  have hkB := hnx3.keep w2.heap.size (by omega) hoB.out
  have hsz5 := hnx3.size
  have k0 := (Ex.cell?_heap hkA 0).trans k0'
  have k1 := (Ex.cell?_heap hkA 1).trans k1'
  have k2 := (Ex.cell?_heap hkA 2).trans k2'
  have j0 := (Ex.cell?_heap hkB 0).trans j0'
  have HNX3 := Lib.hid (HNX2.out.trans hnx3)
  have HREL5 := Lib.hid hrel5
  have HS5 := Lib.hid (HS4.out.mono hnx3.le)
  clear k0' k1' k2' j0' j1' hkA hkB hrel5 hnx3 HREL4 HS4 HNX2 hoA hoB
  have HSl := Lib.hid (HS.out.mono HNX3.out.le)
  have hsl := HSl.out
  cases hsl with
  | slice hloc hle hfull hA hfit =>
  rename_i β ω σ cap A
  have hAd : A = ⟨β, ω + o, none⟩ := hA (by omega)
  subst hAd
  obtain ⟨_, hcl⟩ := Ex.loadA_cells HREL5.out h4 hloc
  obtain ⟨vn, hn0, hn1⟩ := hcl 0 _ rfl
  cases hn1
  have hn0 : w5.cell? ⟨β, ω + o, none⟩ = some (.string ⟨#[98]⟩) := hn0
  clear hcl
  have HLL := Lib.hid hloc
  clear hloc hA hfull hfit
  go_wp2_with fail
  refine wp_loop_rounds 2 ?_
  rw [rounds_succ]
  go_wp2_with fail
  have hN5 : N ≤ w5.heap.size := by omega
  have hW6 : Below w5.heap.size w5 (w5.alloc (.cells #[.string ⟨#[97]⟩, .string ⟨#[]⟩, p', q', r', .int .i64 0, .int .i64 0, .int .i64 0, .int .i64 0, .int .i64 0, .int .i64 0, .int .i64 1] 113)) := (Below.refl w5.heap.size w5).alloc (Nat.le_refl _) _
  have hv6 : (w5.alloc (.cells #[.string ⟨#[97]⟩, .string ⟨#[]⟩, p', q', r', .int .i64 0, .int .i64 0, .int .i64 0, .int .i64 0, .int .i64 0, .int .i64 0, .int .i64 1] 113)).heap[w5.heap.size]? = some (.cells #[.string ⟨#[97]⟩, .string ⟨#[]⟩, p', q', r', .int .i64 0, .int .i64 0, .int .i64 0, .int .i64 0, .int .i64 0, .int .i64 0, .int .i64 1] 113 (0, 0)) := heap_alloc_new _ _
  have hoff5 : ∀ id k l, H3.bs.get id = some k → γ3.loc id = some l → l.1 ≠ w5.heap.size := fun id k l hk hl e => by have := (HREL5.out.low hl).2; omega
  have hrel6 : Ex.Rel E γ3 N H3.bs.get (w5.alloc (.cells #[.string ⟨#[97]⟩, .string ⟨#[]⟩, p', q', r', .int .i64 0, .int .i64 0, .int .i64 0, .int .i64 0, .int .i64 0, .int .i64 0, .int .i64 1] 113)) :=
    HREL5.out.aside (D := w5.heap.size) (Ex.Aside.of_below hW6) hoff5 hN5 hN5
  refine (into_any (vA := [.str [97], .str [], p, q, r, .int .i64 0, .int .i64 0, .int .i64 0, .int .i64 0, .int .i64 0, .int .i64 0, .int .i64 1]) h5 hall (by simp only [List.all_cons, hpo, hqo, hro]; rfl) hrel6 (by simp; omega) HS5.out (fresh_next HNX3.out HF.out _ (Nat.le_refl _) (by omega)) hv6 rfl
    (.cons (.str [97]) (.cons (.str []) (.cons (HP.out.mono HNX3.out.le) (.cons (HQ.out.mono HNX3.out.le) (.cons (HR.out.mono HNX3.out.le) (.cons (.int _ _) (.cons (.int _ _) (.cons (.int _ _) (.cons (.int _ _) (.cons (.int _ _) (.cons (.int _ _) (.cons (.int _ _) .nil)))))))))))) hoff5).mono ?_
  rintro e w7 ⟨v, rfl, ⟨A7, c7, rfl⟩, γ4, hv7, hrel7, hnx7⟩
  have HV7 := Lib.hid hv7
  have HR7 := Lib.hid hrel7
  have HN7 := Lib.hid (HNX3.out.trans (hnx7.ahead (Ex.Aside.of_below (D := w5.heap.size) hW6) (Nat.le_refl _)))
  clear hv7 hrel7 hnx7 hW6 hv6 hoff5 hrel6 k0 k1 k2 j0 hn0
  go_wp2_with fail
  go_ret2
  exact ⟨_, rfl, γ4, .tup (.cons HV7.out (.cons (.int _ _) .nil)), HR7.out, HN7.out⟩
end Go.Proofs.YtlbnfcpdmngjkaaGreatDoor
end
