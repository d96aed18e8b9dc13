/- Walks of package journal: a range over an iterator that keeps state in a cell. -/
import Derived.Test.YtepcagakegbjfaaDoorGc
import Derived.RangeFuncNested
import Derived.RangeFuncBox
import Derived.RangeFuncCalls
import Derived.RangeFuncLeaves
import Derived.Shelf.Abstract
import Derived.Shelf.RegionOpen
import Derived.WalkKit
import Derived.OwnWalkIn
import Derived.TacticsInMore
import Derived.LoopNIn
import Derived.LoopIn
import Derived.Maps.AppendAt
namespace Go.Proofs.YtepcagakegbjfaaDoor
open Go.RowKit Go.Shelf Go.Proofs.YtepcagakegbjfaaDoorW.PrintWords
open Jr (bs lb bs_lb lb_bs bs_app okLine)

theorem make_any (s sep : ByteArray) (n : Int) (w : World) :
    Calls Tryd.prog 67 #[.string s, .string sep, .int .i64 n] w fun e w' => e = .returned (.func (.func 77) #[] #[.pointer (some ⟨w.heap.size + 1, 0, none⟩), .pointer (some ⟨w.heap.size, 0, none⟩), .pointer (some ⟨w.heap.size + 2, 0, none⟩)]) ∧
      w' = ((w.alloc (.cells #[.string s] 9)).alloc (.cells #[.string sep] 9)).alloc (.cells #[.int .i64 n] 3) := by
  go_enter Tryd.func67, Tryd.ntmps67
  go_wp2
  go_ret
  exact ⟨rfl, rfl⟩
theorem seq_any (s sep : ByteArray) (w : World) :
    Calls Tryd.prog 54 #[.string s, .string sep] w fun e w' => e = .returned (.func (.func 77) #[] #[.pointer (some ⟨w.heap.size + 1, 0, none⟩), .pointer (some ⟨w.heap.size, 0, none⟩), .pointer (some ⟨w.heap.size + 2, 0, none⟩)]) ∧
      w' = ((w.alloc (.cells #[.string s] 9)).alloc (.cells #[.string sep] 9)).alloc (.cells #[.int .i64 0] 3) := by
  go_enter Tryd.func54, Tryd.ntmps54
  go_wp2_with fail
  refine (make_any s sep 0 _).mono ?_
  rintro e w' ⟨rfl, rfl⟩
  go_wp2
  go_ret
  exact ⟨rfl, rfl⟩

section law
variable {F : Fence} {n : Nat} {P : Program}
/-- A range over an iterator that turns its own state between two rounds. -/
theorem range_st {α σ : Type} {g : Operand} {ps : Array Tmp} {assign body : Code} {Q : Exit → Act → World → Prop} {a : Act} {w : World}
    (hro : F.round = none) (h1 : 1 ≤ n) {gf : Nat} {lb : Array Value} (hg : a.eval g = .func (.func gf) #[] lb) (hFg : F.fn gf) (eg : ∀ args w, (callFunc gf args).run P w = .ok (.enter gf args) w)
    {enc : α → Value} (ok : List α → α → Prop) (hps : ps.size = 1)
    (I : List α → σ → World → Prop) (hI : ∀ t, OwnFrom w.heap.size (fun pre W => I pre t W)) (t0 : σ) (h0 : I [] t0 w) (S : List α → Prop) (a₁ : α → Act)
    (hassign : ∀ (l : Nat) (x : α) (W : World) (K : Act → World → Prop), K (a₁ x) W →
      assign.wpIn (F.inRound l) (n - 1 - 1) P (Exit.then K (fun _ _ _ => False)) { tmps := (ps.zip #[enc x]).foldl (fun t (p, v) => t.setIfInBounds p v) a.tmps, defers := [] } W)
    (hbody : ∀ (l : Nat) (pre : List α) (x : α) (t : σ) (W : World), ok pre x → I pre t W → body.wpIn (F.inRound l) (n - 1 - 1) P (fun e _ W' => e = .normal ∧ KeepsOthers W W' ∧ I (pre ++ [x]) t W') (a₁ x) W)
    (step : σ → σ → World → World → Prop) (hstep : ∀ pre t t' W W', I pre t W → step t t' W W' → KeepsOthers W W' ∧ I pre t' W')
    (hit : ∀ (l : Nat) (J : List α → σ → World → Prop) (W : World), (∀ pre t W, J pre t W → I pre t W) → (∀ pre t t' W W', J pre t W → step t t' W W' → J pre t' W') →
      (∀ pre x t W, ok pre x → J pre t W → YieldAt F (n - 1 - 1) P l #[enc x] W fun e W' => e = .returned (.bool true) ∧ J (pre ++ [x]) t W') → J [] t0 W →
      CallsIn F (n - 1) P gf (#[.func (.yield l) #[] #[]] ++ lb) W fun e W' => (∃ v, e = .returned v) ∧ ∃ xs t, S xs ∧ J xs t W')
    (hdone : ∀ (D : Nat) (xs : List α) (t : σ) (W : World), w.heap.size ≤ D → S xs → I xs t W → W.heap[D]? = some (.deferred (some [])) → Q .normal { a with defers := { target := .collected D, args := #[] } :: a.defers } W) :
    (Code.rangeFunc g ps assign body).wpIn F n P Q a w := by
  refine wpIn_rangeFunc ?_
  intro fn hfn
  rw [hro]
  obtain ⟨rec, hrec⟩ : ∃ rec : LoopState → Option Code → Loop, rec = fun st pe => { state := st, pending := pe, fn, tmps := a.tmps, params := ps, assign, body, defers := w.heap.size } := ⟨_, rfl⟩
  obtain ⟨W1, hW1⟩ : ∃ W1, (w.alloc (.deferred (some []))).alloc (.loop (rec .ready none)) = W1 := ⟨_, rfl⟩
  have hL1 : W1.heap[w.heap.size + 1]? = some (.loop (rec .ready none)) := by
    rw [← hW1]; have := World.alloc_heap_new (w.alloc (.deferred (some []))) (.loop (rec .ready none)); rwa [World.size_alloc] at this
  have hK1 : W1.heap[w.heap.size]? = some (.deferred (some [])) := by
    rw [← hW1]; exact (Below.heap_alloc _ _ _ (by simp)).trans (World.alloc_heap_new w _)
  have hI1 : I [] t0 W1 := by rw [← hW1]; exact (hI t0).alloc _ ((hI t0).alloc _ h0)
  refine ⟨w.heap.size + 1, [{ target := .collected w.heap.size, args := #[] }], W1, { target := .fn (.func gf) lb, args := #[.func (.yield (w.heap.size + 1)) #[] #[]] }, W1, gf,
    #[.func (.yield (w.heap.size + 1)) #[] #[]] ++ lb, W1, ?_, ?_, ?_, ?_, fun _ => h1, ?_⟩
  · rw [← hW1, hrec]; exact run_enterLoop_outer _ _ _ _ _
  · simp only [resolve, hg]
    simp [go_sem]
  · intro f' hf'; simp [Target.leads] at hf'; subst hf'; exact hFg
  · simp [invoke, go_sem, eg]
  · refine (hit (w.heap.size + 1)
      (fun pre t W => I pre t W ∧ W.heap[w.heap.size + 1]? = some (.loop (rec .ready none)) ∧ W.heap[w.heap.size]? = some (.deferred (some [])))
      W1 (fun pre t W h => h.1) ?_ ?_ ⟨hI1, hL1, hK1⟩).mono ?_
    · rintro pre t t' W W' ⟨hi, hl, hk⟩ hs
      obtain ⟨ko, hi'⟩ := hstep pre t t' W W' hi hs
      exact ⟨hi', ko.same _ _ hl rfl, ko.same _ _ hk rfl⟩
    · rintro pre x t W hx ⟨hi, hl, hk⟩
      have hlt : w.heap.size + 1 < W.heap.size := (Array.getElem?_eq_some_iff.1 hl).1
      have hy := run_yield (P := P) (args := #[enc x]) hl (by rw [hrec]; simp [hps])
      rw [hrec] at hy
      refine ⟨fn, _, assign, body, hy, roundIn_of_wpIn hfn (hassign _ x W _ ⟨_, run_beginRound hl (by rw [hrec]), ?_⟩)⟩
      have hl2 : (W.putObj (w.heap.size + 1) (.loop { rec .ready none with state := .busy })).heap[w.heap.size + 1]? = some (.loop { rec .ready none with state := .busy }) := World.putObj_heap_same hlt
      have hk2 : (W.putObj (w.heap.size + 1) (.loop { rec .ready none with state := .busy })).heap[w.heap.size]? = some (.deferred (some [])) := (World.putObj_heap_other (by omega)).trans hk
      refine wpIn_mono (hbody _ pre x t _ hx ((hI t).putObj _ hi (by omega) hl rfl)) ?_
      rintro e a3 W3 ⟨rfl, hk3, hi3⟩
      have hl3 := hk3.same _ _ hl2 rfl
      have hr := run_endRound (P := P) none hl3
      rw [hrec] at hr
      refine ⟨_, _, hr, rfl, ?_⟩
      have hi4 := (hI t).putObj (.loop { rec .ready none with state := .ready, pending := none }) hi3 (by omega) hl3 rfl
      rw [hrec] at hi4 ⊢
      refine ⟨hi4, World.putObj_heap_same (Array.getElem?_eq_some_iff.1 hl3).1, (World.putObj_heap_other (by omega)).trans (hk3.same _ _ hk2 rfl)⟩
    · rintro e W2 ⟨⟨v, rfl⟩, xs, t, hS, hi, hl, hk⟩
      exact ⟨none, _, by have := run_endLoop (P := P) hl (by rw [hrec]; simp); rw [hrec] at this; exact this, hdone _ xs t _ (Nat.le_refl _) hS ((hI t).putObj _ hi (by omega) hl rfl) ((World.putObj_heap_other (by omega)).trans hk)⟩
end law
end Go.Proofs.YtepcagakegbjfaaDoor
/- Walks of package journal: what strings.SplitSeq's closure yields. -/
namespace Go.Proofs.YtepcagakegbjfaaDoor
open Go.RowKit Go.Shelf Go.Proofs.YtepcagakegbjfaaDoorW.PrintWords
open Jr (bs lb bs_lb lb_bs bs_app okLine)

theorem split_some {s : List UInt8} {c : UInt8} {i : Nat} (h : Lib.indexByte s c = i) : i < s.length ∧ Jr.splitL c s = s.take i :: Jr.splitL c (s.drop (i + 1)) := by
  induction s generalizing i with
  | nil => simp [Lib.indexByte] at h
  | cons b l ih =>
    unfold Lib.indexByte at h
    by_cases hb : b = c
    · subst hb
      simp at h
      obtain rfl : i = 0 := by omega
      refine ⟨by simp, ?_⟩
      simp [Jr.splitL]
    · rw [if_neg (by simpa using hb)] at h
      split at h
      · omega
      · obtain ⟨j, hj⟩ : ∃ j : Nat, Lib.indexByte l c = j := ⟨(Lib.indexByte l c).toNat, by have := Lib.indexByte_ge l c; rename_i hm; simp at hm; omega⟩
        obtain ⟨h1, h2⟩ := ih hj
        obtain rfl : i = j + 1 := by omega
        refine ⟨by simp; omega, ?_⟩
        rw [show Jr.splitL c (b :: l) = if b = c then [] :: Jr.splitL c l else match Jr.splitL c l with | h :: t => (b :: h) :: t | [] => [[b]] from rfl, if_neg hb, h2]
        simp
theorem split_none {s : List UInt8} {c : UInt8} (h : Lib.indexByte s c < 0) : Jr.splitL c s = [s] := by
  have hm : Lib.indexByte s c = -1 := by have := Lib.indexByte_ge s c; omega
  apply Jr.splitL_miss
  intro hc
  obtain ⟨k, hk⟩ := List.getElem?_of_mem hc
  exact Lib.indexByte_none hm k hk
theorem split_len (c : UInt8) : ∀ s : List UInt8, (Jr.splitL c s).length ≤ s.length + 1
  | [] => by simp [Jr.splitL]
  | x :: r => by
    have ih := split_len c r
    simp only [Jr.splitL]
    split
    · simp only [List.length_cons]; omega
    · split
      · rename_i h
        rw [h] at ih
        simp only [List.length_cons] at ih ⊢; omega
      · simp
/-- What is left in the iterator's cell, by its size. -/
def leftN (W : World) (b : Nat) : Nat := match W.cell? ⟨b, 0, none⟩ with
  | some (.string t) => t.size
  | _ => 0
theorem leftN_box {W : World} {b : Nat} {t : ByteArray} (h : Boxed W b 9 (.string t)) : leftN W b = t.size := by
  unfold leftN
  rw [h.cell]
theorem ext_lb (t : ByteArray) (i : Nat) : lb (t.extract 0 i) = (lb t).take i := by
  unfold lb; simp [ByteArray.data_extract]
theorem ext_lb2 (t : ByteArray) (i : Nat) : lb (t.extract i t.size) = (lb t).drop i := by
  unfold lb
  simp only [ByteArray.data_extract, Array.toList_extract, List.extract_eq_take_drop]
  rw [List.take_of_length_le]
  simp
set_option maxRecDepth 100000 in
set_option maxHeartbeats 1000000 in
theorem split_in (n : Nat) (hn : 1 ≤ n) (l sb : Nat) (s : ByteArray) (hs : s.size ≤ 1000000000) (J : List ByteArray → ByteArray → World → Prop)
    (hb : ∀ pre t W, J pre t W → Boxed W sb 9 (.string t) ∧ Boxed W (sb + 1) 9 (.string ⟨#[10]⟩) ∧ Boxed W (sb + 2) 3 (.int .i64 0))
    (hst : ∀ pre t t' W, J pre t W → J pre t' (W.setCell ⟨sb, 0, none⟩ (.string t')))
    (hY : ∀ pre x t W, (x.size ≤ 1000000000 ∧ pre.length ≤ s.size) → J pre t W → YieldAt Fence.wide (n - 1) Tryd.prog l #[.string x] W fun e W' => e = .returned (.bool true) ∧ J (pre ++ [x]) t W')
    (W : World) (h0 : J [] s W) :
    CallsIn Fence.wide n Tryd.prog 77 #[.func (.yield l) #[] #[], .pointer (some ⟨sb + 1, 0, none⟩), .pointer (some ⟨sb, 0, none⟩), .pointer (some ⟨sb + 2, 0, none⟩)] W fun e W' => (∃ v, e = .returned v) ∧
      ∃ xs t, xs.map lb = Jr.splitL 10 (lb s) ∧ J xs t W' := by
  refine callsIn_of_wp Tryd.func77 rfl trivial ?_ rfl
  simp only [Tryd.ntmps77, List.size_toArray, List.length_cons, List.length_nil, Nat.reduceAdd, Nat.reduceSub, Array.replicate_succ, Array.replicate_zero, List.push_toArray, List.append_toArray, List.nil_append, List.cons_append]
  obtain ⟨b1, b2, b3⟩ := hb _ _ _ h0
  have c1 := b1.cell
  have c2 := b2.cell
  have c3 := b3.cell
  gi_wp2
  clear b1 b2 b3 c1 c2 c3
  gi_loopw [7] (fun i wr => ∃ pre t, t.size ≤ 1000000000 ∧ (pre.map lb) ++ Jr.splitL 10 (lb t) = Jr.splitL 10 (lb s) ∧ J pre t wr) (fun _ wr => leftN wr sb)
  case atStart => exact ⟨[], s, hs, by simp, h0⟩
  case round =>
    obtain ⟨pre, t, ht, hx, hJ⟩ := hrel
    obtain ⟨b1, b2, b3⟩ := hb _ _ _ hJ
    have c1 := b1.cell
    have c2 := b2.cell
    have c3 := b3.cell
    have hpl : pre.length ≤ s.size := by
      have e1 := congrArg List.length hx
      have e2 := split_len 10 (lb s)
      have e3 := Jr.lb_length s
      have e4 := List.length_pos_iff.2 (Jr.splitL_ne 10 (lb t))
      rw [List.length_append, List.length_map] at e1
      omega
    have hge := Lib.indexByte_ge (lb t) 10
    have hS0 := Lib.hid (@split_none (lb t) 10)
    have hS1 : Hid (∀ i : Nat, Lib.indexByte (lb t) 10 = i → i < (lb t).length ∧ Jr.splitL 10 (lb t) = (lb t).take i :: Jr.splitL 10 ((lb t).drop (i + 1))) := Lib.hid fun i h => split_some h
    have hLl : (lb t).length = t.size := Jr.lb_length t
    gi_wp2
    refine ⟨trivial, ?_⟩
    gi_at_call 79
    refine (callsIn_wide.2 (Tryd.strings_Index_one t 10 _)).mono ?_
    rintro e w' ⟨rfl, rfl⟩
    rw [show t.data.toList = lb t from rfl]
    generalize Lib.indexByte (lb t) 10 = ix at *
    by_cases hi : ix < 0
    · have hS := hS0.out hi
      obtain ⟨fn, tmps, assign, body, hy, hR⟩ := hY pre t t _ ⟨ht, hpl⟩ hJ
      have HX := Lib.hid hx
      have HS := Lib.hid hS
      clear hx hS hS0 hS1
      gi_wp2
      refine hR.mono ?_
      rintro e W3 ⟨rfl, hJ3⟩
      gi_wp2
      go_end0
      exact ⟨⟨_, rfl⟩, pre ++ [t], t, by rw [List.map_append, ← HX.out, HS.out]; rfl, hJ3⟩
    · obtain ⟨i, rfl⟩ : ∃ i : Nat, ix = i := ⟨ix.toNat, by omega⟩
      obtain ⟨hl1, hS⟩ := hS1.out i rfl
      have hi2 : i < t.size := by omega
      have hfx : lb (t.extract 0 i) = (lb t).take i := ext_lb t i
      have hrx : lb (t.extract (i + 1) t.size) = (lb t).drop (i + 1) := ext_lb2 t (i + 1)
      have hfs : (t.extract 0 i).size ≤ 1000000000 := by rw [ByteArray.size_extract]; omega
      have hrs : (t.extract (i + 1) t.size).size < t.size := by rw [ByteArray.size_extract]; omega
      obtain ⟨fn, tmps, assign, body, hy, hR⟩ := hY pre (t.extract 0 i) t _ ⟨hfs, hpl⟩ hJ
      have HX := Lib.hid hx
      have HS := Lib.hid hS
      have HF := Lib.hid hfx
      have HR := Lib.hid hrx
      clear hx hS hS0 hS1 hfx hrx hfs
      gi_wp2
      refine hR.mono ?_
      rintro e W3 ⟨rfl, hJ3⟩
      have HM0 := Lib.hid (leftN_box b1)
      clear b1 b2 b3 c1 c2 c3 hJ hy hR
      obtain ⟨b1, b2, b3⟩ := hb _ _ _ hJ3
      have c1 := b1.cell
      have c2 := b2.cell
      have c3 := b3.cell
      have f1 := b1.frozen
      have hJ4 := hst _ _ (t.extract (i + 1) t.size) _ hJ3
      have hm := leftN_box (hb _ _ _ hJ4).1
      have HM := Lib.hid hm
      clear hm
      gi_wp2
      go_roundw
      case rel => exact ⟨pre ++ [t.extract 0 i], t.extract (i + 1) t.size, by omega, by rw [List.map_append, ← HX.out, HS.out, HR.out, List.map_cons, HF.out, List.append_assoc]; rfl, hJ4⟩
      case measure => rw [HM0.out, HM.out]; exact hrs
end Go.Proofs.YtepcagakegbjfaaDoor
/- Walks of package journal: unframed: all lines that stand whole. -/
namespace Go.Proofs.YtepcagakegbjfaaDoor
open Go.RowKit Go.Shelf Go.Proofs.YtepcagakegbjfaaDoorW.PrintWords
open Jr (bs lb bs_lb lb_bs bs_app okLine)
attribute [local go_sem] Oper.semAt_some

theorem info9u : (Tryd.prog.info? 9).map (fun i => (i.zero, i.size, i.bytes)) = some (some (.string ⟨#[]⟩), 1, 16) := by kernel_rfl
theorem bytes_beq_f (x y : ByteArray) : (x.toList == y.toList) = false ↔ x ≠ y := by
  rw [ByteArray.toList_eq, ByteArray.toList_eq]
  constructor
  · rintro h rfl
    simp at h
  · intro h
    simp
    intro e
    exact h (by cases x; cases y; simp_all)
/-- A chunk's line, as bytes. -/
def wholeB (x : ByteArray) : Option ByteArray := (Jr.whole (lb x)).map bs
theorem whole_none {x : ByteArray} {a b : List UInt8} (h : Jr.cut1 32 (lb x) = (a, b, false)) : wholeB x = none := by
  unfold wholeB Jr.whole
  rw [show Jr.sp = 32 from rfl, h]
  rfl
theorem whole_some {x : ByteArray} {a b : List UInt8} (h : Jr.cut1 32 (lb x) = (a, b, true)) (he : bs (Jr.frame b) = ⟨#[10]⟩ ++ x) : wholeB x = some (bs b) := by
  unfold wholeB Jr.whole
  rw [show Jr.sp = 32 from rfl, h]
  have e : Jr.frame b = Jr.nl :: lb x := by
    have := congrArg lb he
    rw [lb_bs] at this
    rw [this]
    unfold lb
    simp
    rfl
  simp [e]
theorem whole_not {x : ByteArray} {a b : List UInt8} (h : Jr.cut1 32 (lb x) = (a, b, true)) (he : bs (Jr.frame b) ≠ ⟨#[10]⟩ ++ x) : wholeB x = none := by
  unfold wholeB Jr.whole
  rw [show Jr.sp = 32 from rfl, h]
  have e : Jr.frame b ≠ Jr.nl :: lb x := by
    intro e
    apply he
    rw [e]
    have : Jr.nl :: lb x = [10] ++ lb x := rfl
    rw [this, bs_app, bs_lb]
    rfl
  simp [e]
theorem keeps_below {W W' : World} (h : Below W.heap.size W W') : KeepsOthers W W' :=
  ⟨h.size, fun k _ hk _ => (h.block k (Array.getElem?_eq_some_iff.1 hk).1).trans hk⟩
theorem boxed_below {W W' : World} {B : Nat} {t : TypeId} {v : Value} (h : Below W.heap.size W W') (hb : Boxed W B t v) : Boxed W' B t v := (h.block B hb.lt).trans hb
/-- Between two rounds: what has been found whole; what the iterator's cells hold. -/
def UnI (w : World) (pre : List ByteArray) (t : ByteArray) (W : World) : Prop :=
  (∃ v, Boxed W w.heap.size 34 v ∧ W.ownsRow (w.heap.size + 4) 9 1 v (pre.filterMap wholeB).length ((pre.filterMap wholeB).map Value.string) ∧ True) ∧
  Boxed W (w.heap.size + 1) 9 (.string t) ∧ Boxed W (w.heap.size + 2) 9 (.string ⟨#[10]⟩) ∧ Boxed W (w.heap.size + 3) 3 (.int .i64 0) ∧ Below w.heap.size w W
theorem unI_own (w : World) (t : ByteArray) : OwnFrom (w.heap.size + 4) (fun pre W => UnI w pre t W) :=
  OwnFrom.and (Own.from (holdsRow_own (w.heap.size + 4) w.heap.size 34 9 1 (fun pre : List ByteArray => (pre.filterMap wholeB).length) (fun pre => (pre.filterMap wholeB).map Value.string) (fun _ _ => True)) _)
    (OwnFrom.and (Own.from (boxed_own _ _ _) _) (OwnFrom.and (Own.from (boxed_own _ _ _) _) (OwnFrom.and (Own.from (boxed_own _ _ _) _) (ownFrom_below (Nat.le_refl _) (by omega)))))
theorem unI_below {w W W' : World} {pre : List ByteArray} {t : ByteArray} (h : UnI w pre t W) (hb : Below W.heap.size W W') : UnI w pre t W' := by
  obtain ⟨⟨v, h1, h2, _⟩, h3, h4, h5, h6⟩ := h
  exact ⟨⟨v, boxed_below hb h1, pw_own_below h2 hb, trivial⟩, boxed_below hb h3, boxed_below hb h4, boxed_below hb h5, h6.trans (hb.mono h6.size)⟩
theorem unI_set {w W : World} {pre : List ByteArray} {t : ByteArray} (t' : ByteArray) (h : UnI w pre t W) : UnI w pre t' (W.setCell ⟨w.heap.size + 1, 0, none⟩ (.string t')) := by
  obtain ⟨⟨v, h1, h2, _⟩, h3, h4, h5, h6⟩ := h
  refine ⟨⟨v, h1.other (by omega) _, h2.kept (grownBy_setCell' W _ _) ?_, trivial⟩, h3.set _, h4.other (by omega) _, h5.other (by omega) _, h6.setCell (p := ⟨w.heap.size + 1, 0, none⟩) (by simp) _⟩
  cases hv : v.ownBlock with
  | none => exact .inl rfl
  | some k =>
    have := own_base h2 k hv
    exact .inr (by simp; omega)
set_option maxRecDepth 100000 in
set_option maxHeartbeats 2000000 in
theorem unframed_any : Unf := by
  intro s w hs hg
  obtain ⟨i0, hi, hz0, hzs, hzb⟩ := info_parts info9u
  refine (callsIn_wide (n := 3)).1 ?_
  refine callsIn_of_wp_marks Tryd.func39 rfl trivial ?_ rfl
  simp only [Tryd.ntmps39, List.size_toArray, List.length_cons, List.length_nil, Nat.reduceAdd, Nat.reduceSub, Array.replicate_succ, Array.replicate_zero, List.push_toArray, List.append_toArray, List.nil_append, List.cons_append]
  gi_wp2
  refine ⟨trivial, ?_⟩
  gi_at_call 54
  refine (callsIn_wide.2 (seq_any s ⟨#[10]⟩ _)).mono ?_
  rintro e w1 ⟨rfl, hw1⟩
  rw [World.size_alloc]
  have hI0 : UnI w [] s w1 := by
    rw [hw1]
    have e1 := Boxed.new w 34 (.slice none 0 0)
    have e2 := Boxed.new (w.alloc (.cells #[.slice none 0 0] 34)) 9 (.string s)
    have e3 := Boxed.new ((w.alloc (.cells #[.slice none 0 0] 34)).alloc (.cells #[.string s] 9)) 9 (.string ⟨#[10]⟩)
    have e4 := Boxed.new (((w.alloc (.cells #[.slice none 0 0] 34)).alloc (.cells #[.string s] 9)).alloc (.cells #[.string ⟨#[10]⟩] 9)) 3 (.int .i64 0)
    simp only [World.size_alloc] at e2 e3 e4
    exact ⟨⟨_, ((e1.alloc _).alloc _).alloc _, own_nil _ _ _ _, trivial⟩, (e2.alloc _).alloc _, e3.alloc _, e4, ((((Below.refl _ w).alloc (Nat.le_refl _) _).alloc (by simp) _).alloc (by simp; omega) _).alloc (by simp; omega) _⟩
  have hz1 : w1.heap.size = w.heap.size + 4 := by rw [hw1]; simp
  clear hw1
  gi_wp2
  refine range_st rfl (by omega) (gf := 77) (lb := #[.pointer (some ⟨w.heap.size + 2, 0, none⟩), .pointer (some ⟨w.heap.size + 1, 0, none⟩), .pointer (some ⟨w.heap.size + 3, 0, none⟩)]) rfl trivial (enters_of Tryd.func77 (by kernel_rfl) rfl)
    (enc := Value.string) (fun pre x => x.size ≤ 1000000000 ∧ pre.length ≤ s.size) rfl
    (fun pre t W => UnI w pre t W) (fun t => by rw [hz1]; exact unI_own w t) s hI0 (fun xs => xs.map lb = Jr.splitL 10 (lb s))
    (fun x => { tmps := #[.string s, undef, .slice none 0 0, .pointer (some ⟨w.heap.size, 0, none⟩), .string x, undef, undef, undef, .string s, .func (.func 77) #[] #[.pointer (some ⟨w.heap.size + 2, 0, none⟩), .pointer (some ⟨w.heap.size + 1, 0, none⟩), .pointer (some ⟨w.heap.size + 3, 0, none⟩)], .string x, undef, undef, undef, undef, undef, undef, undef, undef, undef, undef, undef, undef, undef, undef, undef, undef, undef, undef, undef], defers := [] })
    ?assign ?body (fun t t' W W' => W' = W.setCell ⟨w.heap.size + 1, 0, none⟩ (.string t')) ?step ?iter ?done
  case assign =>
    intro l x W K hK
    gi_wp2
    exact hK
  case step =>
    rintro pre t t' W W' hI rfl
    exact ⟨KeepsOthers.setCell _ _ _, unI_set t' hI⟩
  case iter =>
    intro l J W hJ hst hY h0
    refine (split_in 2 (by omega) l (w.heap.size + 1) s hs J (fun pre t W h => ?_) (fun pre t t' W h => hst _ _ _ _ _ h rfl) (fun pre x t W h1 h2 => hY pre x t W h1 h2) W h0).mono fun e W' h => h
    obtain ⟨_, h3, h4, h5, _⟩ := hJ _ _ _ h
    exact ⟨h3, h4, h5⟩
  case body =>
    rintro l pre x t W ⟨hx, hp⟩ hI
    have hB0 := hI.2.2.2.2
    have hgW := hg.below hB0 hg.many
    have hlx : (lb x).length = x.size := Jr.lb_length x
    gi_wp2
    refine ⟨trivial, ?_⟩
    gi_at_call 35
    refine (CallsIn.inRound l (callsIn_wide.2 (cut_any x 32 (by omega) _ hgW))).mono ?_
    rintro e w2 ⟨rfl, hb2⟩
    have l2 := cut1_len 32 (lb x)
    generalize hc : Jr.cut1 32 (lb x) = c at *
    obtain ⟨a, b, f⟩ := c
    have hI2 := unI_below hI hb2
    have hk2 := keeps_below hb2
    have hg2 := hgW.below hb2 hgW.many
    have HC := Lib.hid hc
    clear hc hI hb2 hgW hB0
    cases f with
    | false =>
      have hw0 := whole_none HC.out
      have HW := Lib.hid hw0
      clear hw0
      gi_wp2
      refine ⟨trivial, ?_⟩
      gi_wp2
      obtain ⟨⟨v, h1, h2, _⟩, h3⟩ := hI2
      have e1 : (pre ++ [x]).filterMap wholeB = pre.filterMap wholeB := by rw [List.filterMap_append]; simp [HW.out]
      exact ⟨⟨v, h1, by rw [e1]; exact h2, trivial⟩, h3⟩
    | true =>
      simp only at l2
      have hbz : (bs b).size ≤ 1000000000 := by rw [Jr.bs_size]; omega
      have HW1 := Lib.hid (@whole_some x a b HC.out)
      have HW2 := Lib.hid (@whole_not x a b HC.out)
      gi_wp2
      refine ⟨trivial, ?_⟩
      gi_at_call 46
      refine (CallsIn.inRound l (callsIn_wide.2 (frame_any (bs b) (by omega) _ hg2))).mono ?_
      rintro e w3 ⟨rfl, hb3⟩
      rw [lb_bs]
      have hI3 := unI_below hI2 hb3
      have hk3 := hk2.trans (keeps_below hb3)
      clear hI2 hb3 hk2 hg2 HC
      generalize bs (Jr.frame b) = q at *
      generalize bs b = y at *
      obtain ⟨⟨v, h1, h2, _⟩, h3, h4, h5, h6⟩ := hI3
      have c1 := h1.cell
      by_cases hE : q = ⟨#[10]⟩ ++ x
      · have HW := Lib.hid (HW1.out hE)
        subst hE
        clear HW1 HW2
        have hB4 : w.heap.size + 4 ≤ w3.heap.size := by have := h5.lt; omega
        have hpl : (pre.filterMap wholeB).length ≤ pre.length := List.length_filterMap_le _ _
        gi_wp2_with (gi_at_builtin; refine wpListIn_append_own _ rfl _ _ 34 rfl (w.heap.size + 4) 9 i0 (.string ⟨#[]⟩) 1 16 Tryd.underlying34 hi hz0 hzs hzb rfl (by decide) _ _ _ rfl (h2.alloc _) ⟨w3.heap.size, 0, none⟩ 1 1 [.string y] rfl rfl (cell_one_new _ _ _) (by simp [Value.oneCell']) (by unfold maxLen; omega) (by omega) (by simp; omega) ?_; intro v' w4 hown' hgrow _; obtain ⟨g', cap', rfl⟩ := ownsRow_succ hown'; obtain ⟨hv1, hv2, hr2, hk4, hb4⟩ := h1.appended (n₀ := w.heap.size) (by decide) (own_less h2 (by omega)) h6.size (Nat.le_refl _) (own_less hown' (by omega)) hgrow; have hc1 := hv1.cell; have hf1 := hv1.frozen)
        have hne : ∀ k, k < w.heap.size + 4 → some k ≠ v.ownBlock := fun k hk e => by
          have := own_base h2 k e.symm
          omega
        have e1 : (pre ++ [x]).filterMap wholeB = pre.filterMap wholeB ++ [y] := by rw [List.filterMap_append]; simp [HW.out]
        refine ⟨hk3.trans hk4, ⟨_, hv2, ?_, trivial⟩, ((h3.alloc _).kept hgrow (hne _ (by omega))).other (by omega) _, ((h4.alloc _).kept hgrow (hne _ (by omega))).other (by omega) _, ((h5.alloc _).kept hgrow (hne _ (by omega))).other (by omega) _, h6.trans hb4⟩
        rw [e1, List.length_append, List.map_append]
        exact hown'.kept (grownBy_setCell' _ _ _) (.inr (hv1.not_row (by decide) hown').symm)
      · have HW := Lib.hid (HW2.out hE)
        have hE2 := (bytes_beq_f q (⟨#[10]⟩ ++ x)).2 hE
        clear HW1 HW2
        gi_wp2
        have e1 : (pre ++ [x]).filterMap wholeB = pre.filterMap wholeB := by rw [List.filterMap_append]; simp [HW.out]
        first
          | exact ⟨rfl, hk3, ⟨v, h1, by rw [e1]; exact h2, trivial⟩, h3, h4, h5, h6⟩
          | exact ⟨hk3, ⟨v, h1, by rw [e1]; exact h2, trivial⟩, h3, h4, h5, h6⟩
          | exact ⟨⟨v, h1, by rw [e1]; exact h2, trivial⟩, h3, h4, h5, h6⟩
  case done =>
    rintro D xs t W hD hS hI hK
    obtain ⟨⟨v, h1, h2, _⟩, h3, h4, h5, h6⟩ := hI
    have c1 := h1.cell
    gi_wp2
    refine ⟨by simp, .inl ⟨_, _, rfl, run_takeDeferred hK, ?_⟩⟩
    refine ⟨_, results_tmp rfl _ _ _, v, rfl, ?_, h6.trans (belowK_b (w := w) (Nat.le_refl _) W D _ _ (by omega) hK rfl rfl)⟩
    have e1 : (Jr.unframed (lb s)).map bs = xs.filterMap wholeB := by
      unfold Jr.unframed
      rw [show Jr.nl = 10 from rfl, ← hS, List.filterMap_map, List.map_filterMap]
      rfl
    rw [e1]
    have := own_less (ownsRow_putObj h2 (.deferred none) hK rfl) (show w.heap.size ≤ w.heap.size + 4 by omega)
    unfold OwnLines
    exact this
end Go.Proofs.YtepcagakegbjfaaDoor
