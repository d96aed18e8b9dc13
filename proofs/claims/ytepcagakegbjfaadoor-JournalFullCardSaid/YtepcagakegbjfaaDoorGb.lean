/- Walks of the small functions of package tape. -/
import Derived.Test.YtepcagakegbjfaaDoorRows
import Derived.Test.YtepcagakegbjfaaDoorGa
import Derived.WalkKit
import Derived.WalkSpells
import Derived.WalkLawsBesides
import Derived.Lib.Hide
import Derived.BigQuiet
import Derived.BigRegion
import Derived.RegionTactic
import Derived.ChangeAlike
import Derived.Deep.QuietTactic
import Derived.Deep.RegionWith
import Derived.Test.YtepcagakegbjfaaDoorWWords
import Derived.Deep.RegionLaw
import Derived.Deep.AppendLies
import Derived.Deep.Quiet
import Derived.Below
import Derived.StillTail
namespace Go.Proofs.YtepcagakegbjfaaDoor
open Go.RowKit Go.Proofs.YtepcagakegbjfaaDoorW.PrintWords
open Jr (partF gateF withF Chg cellsOf stepF nowF mores TapeSt putF putC newSt sideF wipeF sealF catF addTot addF cutMore tornL fallF)

set_option maxHeartbeats 400000 in
theorem num_any (a : Int) (w : World) : Calls Tryd.prog 13 #[.int .i64 a] w fun e w' => e = .returned (.int .i64 a) ∧ w = w' := by
  go_enter Tryd.func13, Tryd.ntmps13
  go_wp2
  go_ret
  exact ⟨rfl, rfl⟩

set_option maxHeartbeats 400000 in
theorem part_any (n m : Int) (hm : 0 ≤ m) (hm2 : m ≤ 1000000000000) (w : World) : Calls Tryd.prog 32 #[.int .i64 n, .int .i64 m] w fun e w' => e = .returned (.int .i64 (partF n m)) ∧ w = w' := by
  by_cases h : n < 0
  · go_enter Tryd.func32, Tryd.ntmps32
    go_wp2
    go_ret
    exact ⟨by simp [partF, h], rfl⟩
  · have h0 : 0 ≤ n := by omega
    go_enter Tryd.func32, Tryd.ntmps32
    go_wp2
    go_ret
    exact ⟨by simp [partF]; omega, rfl⟩

/-- A tape's own block. -/
def tapeCells (s0 s1 : ByteArray) (lv : Value) (room crash keep torn calls : Int) (down : Bool) : Array Value :=
  #[.string s0, .string s1, lv, .int .i64 room, .int .i64 crash, .int .i64 keep, .int .i64 torn, .int .i64 calls, .bool down]

set_option maxHeartbeats 400000 in
theorem gate_nil (n : Int) (w : World) : Calls Tryd.prog 34 #[.pointer none, .int .i64 n] w fun e w' => e = .returned (.int .i64 2) ∧ w = w' := by
  go_enter Tryd.func34, Tryd.ntmps34
  go_wp2
  go_ret
  exact ⟨rfl, rfl⟩

set_option maxHeartbeats 400000 in
theorem gate_any (b : Nat) (n : Int) (down : Bool) (w : World) (h8 : w.cell? ⟨b, 8, none⟩ = some (.bool down)) :
    Calls Tryd.prog 34 #[.pointer (some ⟨b, 0, none⟩), .int .i64 n] w fun e w' => e = .returned (.int .i64 (gateF down n)) ∧ w = w' := by
  cases down with
  | true =>
    go_enter Tryd.func34, Tryd.ntmps34
    go_wp2
    go_ret
    exact ⟨rfl, rfl⟩
  | false =>
    by_cases h : n < 0
    · go_enter Tryd.func34, Tryd.ntmps34
      go_wp2
      go_ret
      exact ⟨by simp [gateF, h], rfl⟩
    · by_cases h2 : 2 ≤ n
      · go_enter Tryd.func34, Tryd.ntmps34
        go_wp2
        go_ret
        exact ⟨by simp [gateF, h2], rfl⟩
      · go_enter Tryd.func34, Tryd.ntmps34
        go_wp2
        go_ret
        exact ⟨by simp [gateF, h, h2], rfl⟩



theorem empty_app (s : ByteArray) : ({ data := #[] } : ByteArray) ++ s = s := by
  have : ({ data := #[] } : ByteArray) = ByteArray.empty := rfl
  rw [this, ByteArray.empty_append]

theorem below2 (w : World) (a b : Obj) : Below w.heap.size w ((w.alloc a).alloc b) := ((Below.refl _ _).alloc (Nat.le_refl _) _).alloc (by simp) _
theorem below3 (w : World) (a b c : Obj) : Below w.heap.size w (((w.alloc a).alloc b).alloc c) := (below2 w a b).alloc (by simp; omega) _

set_option maxHeartbeats 400000 in
theorem with_00 (s0 s1 more : ByteArray) (w : World) (hs : s0.size + more.size ≤ 1000000000000) :
    Calls Tryd.prog 48 #[.agg #[.string s0, .string s1], .agg #[.int .i64 0, .bool false, .string more]] w fun e w' => e = .returned (.agg #[.string (s0 ++ more), .string s1]) ∧ Below w.heap.size w w' := by
  go_enter Tryd.func48, Tryd.ntmps48
  go_wp2
  go_region
  go_wp2
  exact bodyPost_ret (v := .agg #[.string (s0 ++ more), .string s1]) (by simp [results, Tryd.results48, go_sem]) rfl ⟨rfl, (below3 _ _ _ _).drew⟩

set_option maxHeartbeats 400000 in
theorem with_01 (s0 s1 more : ByteArray) (w : World) (hs : s0.size + more.size ≤ 1000000000000) :
    Calls Tryd.prog 48 #[.agg #[.string s0, .string s1], .agg #[.int .i64 0, .bool true, .string more]] w fun e w' => e = .returned (.agg #[.string more, .string s1]) ∧ Below w.heap.size w w' := by
  go_enter Tryd.func48, Tryd.ntmps48
  go_wp2
  go_region
  go_wp2
  exact bodyPost_ret (v := .agg #[.string more, .string s1]) (by simp [results, Tryd.results48, go_sem, empty_app]) rfl ⟨rfl, (below3 _ _ _ _).drew⟩

set_option maxHeartbeats 400000 in
theorem with_10 (s0 s1 more : ByteArray) (w : World) (hs : s1.size + more.size ≤ 1000000000000) :
    Calls Tryd.prog 48 #[.agg #[.string s0, .string s1], .agg #[.int .i64 1, .bool false, .string more]] w fun e w' => e = .returned (.agg #[.string s0, .string (s1 ++ more)]) ∧ Below w.heap.size w w' := by
  go_enter Tryd.func48, Tryd.ntmps48
  go_wp2
  go_region
  go_wp2
  exact bodyPost_ret (v := .agg #[.string s0, .string (s1 ++ more)]) (by simp [results, Tryd.results48, go_sem]) rfl ⟨rfl, (below3 _ _ _ _).drew⟩

set_option maxHeartbeats 400000 in
theorem with_11 (s0 s1 more : ByteArray) (w : World) (hs : s1.size + more.size ≤ 1000000000000) :
    Calls Tryd.prog 48 #[.agg #[.string s0, .string s1], .agg #[.int .i64 1, .bool true, .string more]] w fun e w' => e = .returned (.agg #[.string s0, .string more]) ∧ Below w.heap.size w w' := by
  go_enter Tryd.func48, Tryd.ntmps48
  go_wp2
  go_region
  go_wp2
  exact bodyPost_ret (v := .agg #[.string s0, .string more]) (by simp [results, Tryd.results48, go_sem, empty_app]) rfl ⟨rfl, (below3 _ _ _ _).drew⟩

theorem with_any (s0 s1 : ByteArray) (side : Int) (wipe : Bool) (more : ByteArray) (w : World) (h0 : 0 ≤ side) (h1 : side < 2) (hs : s0.size + s1.size + more.size ≤ 1000000000000) :
    Calls Tryd.prog 48 #[.agg #[.string s0, .string s1], .agg #[.int .i64 side, .bool wipe, .string more]] w
      fun e w' => e = .returned (.agg #[.string (withF s0 s1 side wipe more).1, .string (withF s0 s1 side wipe more).2]) ∧ Below w.heap.size w w' := by
  rcases (by omega : side = 0 ∨ side = 1) with rfl | rfl <;> cases wipe
  · exact with_00 s0 s1 more w (by omega)
  · exact with_01 s0 s1 more w (by omega)
  · exact with_10 s0 s1 more w (by omega)
  · exact with_11 s0 s1 more w (by omega)

set_option maxHeartbeats 400000 in
theorem size_any (s0 s1 : ByteArray) (w : World) (hs : s0.size + s1.size ≤ 1000000000000) :
    Calls Tryd.prog 58 #[.agg #[.string s0, .string s1]] w fun e w' => e = .returned (.int .i64 ((s0.size : Int) + s1.size)) ∧ Below w.heap.size w w' := by
  have i0 : ∀ w, (Instr.index 53 (.agg #[.string s0, .string s1]) (.int .i64 0)).run Tryd.prog w = .ok (.string s0) w := fun _ => by kernel_rfl
  have i1 : ∀ w, (Instr.index 53 (.agg #[.string s0, .string s1]) (.int .i64 1)).run Tryd.prog w = .ok (.string s1) w := fun _ => by kernel_rfl
  go_enter Tryd.func58, Tryd.ntmps58
  go_wp2
  refine wp_loop_rounds 3 ?_
  rw [rounds_succ]
  go_wp2
  rw [rounds_succ]
  go_wp2
  rw [rounds_succ]
  go_wp2
  go_ret
  exact ⟨rfl, (Below.refl _ _).alloc (Nat.le_refl _) _⟩

end Go.Proofs.YtepcagakegbjfaaDoor
/- Walks of package tape: what the sides are behind all changes. -/
namespace Go.Proofs.YtepcagakegbjfaaDoor
open Go.RowKit Go.Proofs.YtepcagakegbjfaaDoorW.PrintWords
open Jr (partF gateF withF Chg cellsOf stepF nowF mores TapeSt putF putC newSt sideF wipeF sealF catF addTot addF cutMore tornL fallF)


theorem withF_size (s0 s1 : ByteArray) (side : Int) (wipe : Bool) (more : ByteArray) : (withF s0 s1 side wipe more).1.size + (withF s0 s1 side wipe more).2.size ≤ s0.size + s1.size + more.size := by
  unfold withF
  split <;> cases wipe <;> simp <;> omega

theorem stepF_size (s : ByteArray × ByteArray) (c : Chg) : (stepF s c).1.size + (stepF s c).2.size ≤ s.1.size + s.2.size + c.more.size := withF_size _ _ _ _ _

theorem nowF_size (l : List Chg) : ∀ s : ByteArray × ByteArray, (nowF s l).1.size + (nowF s l).2.size ≤ s.1.size + s.2.size + mores l := by
  induction l with
  | nil => intro s; simp [nowF, mores]
  | cons c l ih =>
    intro s
    have h1 := ih (stepF s c)
    have h2 := stepF_size s c
    have e1 : nowF s (c :: l) = nowF (stepF s c) l := rfl
    have e2 : mores (c :: l) = c.more.size + mores l := rfl
    rw [e1, e2]; omega

theorem mores_take (l : List Chg) : ∀ k (h : k < l.length), mores (l.take k) + l[k].more.size ≤ mores l := by
  induction l with
  | nil => intro k h; simp at h
  | cons c l ih =>
    intro k h
    have e2 : mores (c :: l) = c.more.size + mores l := rfl
    cases k with
    | zero => simp [mores]
    | succ k =>
      have := ih k (by simpa using h)
      have e3 : mores ((c :: l).take (k + 1)) = c.more.size + mores (l.take k) := rfl
      rw [e2, e3]
      simp only [List.getElem_cons_succ]; omega

theorem nowF_snoc (s : ByteArray × ByteArray) (l : List Chg) (k : Nat) (h : k < l.length) : nowF s (l.take (k + 1)) = stepF (nowF s (l.take k)) l[k] := by
  unfold nowF
  rw [List.take_succ_eq_append_getElem h, List.foldl_append]; rfl

theorem bcell {W w1 : World} (hb : Below W.heap.size W w1) : (∀ b o, b < W.heap.size → w1.cell? ⟨b, o, none⟩ = W.cell? ⟨b, o, none⟩) ∧ (∀ b o, b < W.heap.size → w1.frozen? ⟨b, o, none⟩ = W.frozen? ⟨b, o, none⟩) :=
  ⟨fun b o h => hb.cell (p := ⟨b, o, none⟩) h, fun b o h => hb.frozen (p := ⟨b, o, none⟩) h⟩

theorem blk_new1 (w : World) (a b : Obj) : ((w.alloc a).alloc b).heap[w.heap.size + 1]? = some b := by
  have := blk_new (w.alloc a) b
  rwa [show (w.alloc a).heap.size = w.heap.size + 1 by simp] at this

set_option maxHeartbeats 400000 in
theorem now_some (b g n cap : Nat) (s0 s1 : ByteArray) (l : List Chg) (w : World) (hn : n = l.length) (hn2 : n ≤ 1000000000000)
    (hcell0 : ∀ k (h : k < l.length), w.cell? ⟨g, k * 3, none⟩ = some (.int .i64 l[k].side) ∧ w.cell? ⟨g, k * 3 + 1, none⟩ = some (.bool l[k].wipe) ∧ w.cell? ⟨g, k * 3 + 2, none⟩ = some (.string l[k].more))
    (hside : ∀ c ∈ l, 0 ≤ c.side ∧ c.side < 2) (hsz : s0.size + s1.size + mores l ≤ 1000000000000)
    (hbw : b < w.heap.size) (hgw : g < w.heap.size) (h0 : w.cell? ⟨b, 0, none⟩ = some (.string s0)) (h1 : w.cell? ⟨b, 1, none⟩ = some (.string s1)) (h2 : w.cell? ⟨b, 2, none⟩ = some (.slice (some ⟨g, 0, none⟩) n cap)) :
    Calls Tryd.prog 33 #[.pointer (some ⟨b, 0, none⟩)] w
      fun e w' => e = .returned (.agg #[.string (nowF (s0, s1) l).1, .string (nowF (s0, s1) l).2]) ∧ Below w.heap.size w w' := by
  have hcell := Lib.hid hcell0; clear hcell0
  have hnn := Lib.hid hn; clear hn
  go_enter Tryd.func33, Tryd.ntmps33
  go_wp2
  go_loopw [15] (fun i wr => ∃ k : Nat, k ≤ n ∧ i = .int .i64 k ∧ Below w.heap.size w wr ∧ w.heap.size + 1 < wr.heap.size ∧ wr.heap[w.heap.size]? = some (.cells #[.string ⟨#[]⟩, .string ⟨#[]⟩] 53 (0, 0)) ∧
      wr.heap[w.heap.size + 1]? = some (.cells #[.string (nowF (s0, s1) (l.take k)).1, .string (nowF (s0, s1) (l.take k)).2] 53 (0, 0))) (fun i _ => n - (intOf i).toNat)
  case atStart =>
    refine ⟨0, by omega, rfl, below2 _ _ _, by simp, ?_, ?_⟩
    · exact blk_alloc (blk_new _ _) _
    · exact blk_new1 _ _ _
  case round =>
    obtain ⟨k, hk, rfl, hb, hz, hB0, hB1⟩ := hrel
    by_cases hlt : k < n
    · have hkl : k < l.length := by rw [← hnn.out]; exact hlt
      obtain ⟨c0, c1, c2⟩ := hcell.out k hkl
      have hsd := hside l[k] (List.getElem_mem hkl)
      have hs1 := nowF_size (l.take k) (s0, s1)
      have hs2 := mores_take l k hkl
      have HS := Lib.hid (nowF_snoc (s0, s1) l k hkl)
      generalize l[k] = c at *
      obtain ⟨sd, wp, mr⟩ := c
      generalize nowF (s0, s1) (l.take k) = pq at *
      obtain ⟨p, q⟩ := pq
      have d0 := (hb.cell (p := ⟨g, k * 3, none⟩) hgw).trans c0
      have d1 := (hb.cell (p := ⟨g, k * 3 + 1, none⟩) hgw).trans c1
      have d2 := (hb.cell (p := ⟨g, k * 3 + 2, none⟩) hgw).trans c2
      have e0 := blk_cell hB1 0
      have e1 := blk_cell hB1 1
      have f0 := blk_frozen hB1 0
      have f1 := blk_frozen hB1 1
      clear c0 c1 c2
      go_wp2_with fail
      refine (with_any p q sd wp mr _ hsd.1 hsd.2 (by omega)).mono ?_
      rintro e w1 ⟨rfl, hb1⟩
      have hbw : Below wr.heap.size wr w1 := ((Below.refl _ _).alloc (Nat.le_refl _) _).trans (hb1.mono (by simp))
      clear hb1
      have B0 := blk_below hB0 hbw
      have B1 := blk_below hB1 hbw
      have e0 := blk_cell B1 0
      have e1 := blk_cell B1 1
      have f0 := blk_frozen B1 0
      have f1 := blk_frozen B1 1
      have hz1 : w.heap.size + 1 < w1.heap.size := Nat.lt_of_lt_of_le hz hbw.size
      have HB0 := Lib.hid B0
      have HB1 := Lib.hid B1
      clear B0 B1 hB0 hB1
      generalize hxy : withF p q sd wp mr = xy at *
      have HXY := Lib.hid hxy
      clear hxy
      obtain ⟨x, y⟩ := xy
      go_wp2
      go_roundw
      case rel =>
        refine ⟨k + 1, by omega, by go_num, ?_, by simpa using hz1, ?_, ?_⟩
        · exact ((hb.trans (hbw.mono (by omega))).setCell (by simp) _).setCell (by simp) _
        · exact blk_far (blk_far HB0.out (by simp) _) (by simp) _
        · rw [HS.out]
          have := blk_set (blk_set HB1.out 0 (.string x)) 1 (.string y)
          rw [this]
          simp only [stepF, HXY.out]
          rfl
      case measure => simp [intOf]; omega
    · obtain rfl : k = n := by omega
      have e0 := blk_cell hB1 0
      have e1 := blk_cell hB1 1
      have g0 := blk_cell hB0 0
      have g1 := blk_cell hB0 1
      have f0 := blk_frozen hB0 0
      have f1 := blk_frozen hB0 1
      have HB0 := Lib.hid hB0
      clear hB0 hB1 hcell
      go_wp2
      have e2 : l.take k = l := List.take_of_length_le (by have := hnn.out; omega)
      rw [e2]
      have HQ := blk_set (blk_set HB0.out 0 (.string (nowF (s0, s1) l).1)) 1 (.string (nowF (s0, s1) l).2)
      have q0 := blk_cell HQ 0
      have q1 := blk_cell HQ 1
      refine bodyPost_ret (v := .agg #[.string (nowF (s0, s1) l).1, .string (nowF (s0, s1) l).2]) (by simp [results, Tryd.results33, go_sem, q0, q1]) rfl ⟨rfl, (hb.setCell (by simp) _).setCell (by simp) _⟩
end Go.Proofs.YtepcagakegbjfaaDoor
/- Walks of package tape: a call is counted, a change is put. -/
namespace Go.Proofs.YtepcagakegbjfaaDoor
open Go.RowKit Go.Proofs.YtepcagakegbjfaaDoorW.PrintWords
open Jr (partF gateF withF Chg cellsOf stepF nowF mores TapeSt putF putC newSt sideF wipeF sealF catF addTot addF cutMore tornL fallF)

/-- Of what was there only block b and the row may have turned. -/
structure Fr (w w' : World) (b : Nat) (row : Option Nat) : Prop where
  os : w'.os = w.os
  tape : w'.tape = w.tape
  output : w'.output = w.output
  size : w.heap.size ≤ w'.heap.size
  block : ∀ k, k < w.heap.size → k ≠ b → some k ≠ row → w'.heap[k]? = w.heap[k]?

theorem Fr.refl (w : World) (b : Nat) (row : Option Nat) : Fr w w b row := ⟨rfl, rfl, rfl, Nat.le_refl _, fun _ _ _ _ => rfl⟩
theorem Fr.of_below {w w' : World} (h : Below w.heap.size w w') (b : Nat) (row : Option Nat) : Fr w w' b row := ⟨h.os, h.tape, h.output, h.size, fun k hk _ _ => h.block k hk⟩
theorem Fr.of_grown {w w' : World} {row : Option Nat} (h : w.grownBy w' row) (b : Nat) : Fr w w' b row := ⟨h.os, h.tape, h.output, h.size, fun k hk _ hr => h.block k hk hr⟩
theorem Fr.trans {w w1 w2 : World} {b : Nat} {row row1 : Option Nat} (h : Fr w w1 b row) (k : Fr w1 w2 b row1) (hr : ∀ j, row1 = some j → row = some j ∨ w.heap.size ≤ j) : Fr w w2 b row :=
  ⟨k.os.trans h.os, k.tape.trans h.tape, k.output.trans h.output, Nat.le_trans h.size k.size, fun i hi hb hn =>
    (k.block i (Nat.lt_of_lt_of_le hi h.size) hb (fun e => by rcases hr i e.symm with h' | h'; exact hn h'.symm; omega)).trans (h.block i hi hb hn)⟩
theorem Fr.trans' {w w1 w2 : World} {b : Nat} {row : Option Nat} (h : Fr w w1 b row) (k : Fr w1 w2 b row) : Fr w w2 b row := h.trans k (fun _ e => .inl e)
theorem Fr.set {w w1 : World} {b : Nat} {row : Option Nat} (h : Fr w w1 b row) (j : Nat) (u : Value) : Fr w (w1.setCell ⟨b, j, none⟩ u) b row :=
  h.trans' ⟨rfl, rfl, rfl, by simp [World.setCell], fun k _ hb _ => Below.heap_setCell _ _ _ _ (by simpa using hb)⟩
theorem Fr.drew {w w1 : World} {b : Nat} {row : Option Nat} (h : Fr w w1 b row) : Fr w w1.drew b row := ⟨h.os, h.tape, h.output, h.size, h.block⟩
theorem Fr.drewN {w w1 : World} {b : Nat} {row : Option Nat} (h : Fr w w1 b row) (n : Nat) : Fr w (w1.drewN n) b row := ⟨h.os, h.tape, h.output, h.size, h.block⟩
theorem Fr.alloc {w w1 : World} {b : Nat} {row : Option Nat} (h : Fr w w1 b row) (o : Obj) : Fr w (w1.alloc o) b row :=
  h.trans' (Fr.of_below ((Below.refl _ _).alloc (Nat.le_refl _) o) b row)
theorem Fr.mono {w w1 : World} {b : Nat} {row : Option Nat} (h : Fr w w1 b none) : Fr w w1 b row := ⟨h.os, h.tape, h.output, h.size, fun k hk hb _ => h.block k hk hb (by simp)⟩
theorem Fr.below {w w1 : World} {b B : Nat} {row : Option Nat} (h : Fr w w1 b row) (hB : B ≤ w.heap.size) (hb : B ≤ b) (hr : ∀ k, row = some k → B ≤ k) : Below B w w1 :=
  ⟨h.os, h.tape, h.output, h.size, fun k hk => h.block k (by omega) (by omega) (fun e => by have := hr k e.symm; omega)⟩
theorem Fr.keep {w w1 : World} {b : Nat} {row : Option Nat} (h : Fr w w1 b row) {k : Nat} {o : Obj} (hk : w.heap[k]? = some o) (hb : k ≠ b) (hr : some k ≠ row) : w1.heap[k]? = some o :=
  (h.block k (blk_lt hk) hb hr).trans hk
theorem Fr.own {w w1 : World} {b : Nat} {row : Option Nat} (h : Fr w w1 b row) {base : Nat} {e : TypeId} {size n : Nat} {v : Value} {xs : List Value} (ho : w.ownsRow base e size v n xs) (hb : v.ownBlock ≠ some b) (hr : v.ownBlock = none ∨ v.ownBlock ≠ row) : w1.ownsRow base e size v n xs := by
  refine own_move ho (fun k hk => ?_)
  refine h.block k (own_lt ho k hk) (fun e => hb (by rw [hk, e])) (fun e => ?_)
  rcases hr with hr | hr
  · rw [hk] at hr; cases hr
  · exact hr (hk.trans e)

set_option maxHeartbeats 400000 in
theorem counted_any (b : Nat) (s0 s1 : ByteArray) (lv : Value) (room crash keep torn calls : Int) (down : Bool) (w : World) (hc0 : 0 ≤ calls) (hc1 : calls ≤ 1000000000000)
    (hB : w.heap[b]? = some (.cells (tapeCells s0 s1 lv room crash keep torn calls down) 56 (0, 0))) :
    Calls Tryd.prog 59 #[.pointer (some ⟨b, 0, none⟩)] w fun e w' => e = .returned (.int .i64 (if crash = calls + 1 then 16 else 0)) ∧
      w'.heap[b]? = some (.cells (tapeCells s0 s1 lv room crash keep torn (calls + 1) (decide (crash = calls + 1))) 56 (0, 0)) ∧ Fr w w' b none := by
  have e4 : w.cell? ⟨b, 4, none⟩ = some (.int .i64 crash) := blk_cell hB 4
  have e7 : w.cell? ⟨b, 7, none⟩ = some (.int .i64 calls) := blk_cell hB 7
  have e8 : w.cell? ⟨b, 8, none⟩ = some (.bool down) := blk_cell hB 8
  have f7 := blk_frozen hB 7
  have f8 := blk_frozen hB 8
  have HB := Lib.hid hB
  clear hB
  have key : ∀ d : Bool, ((w.setCell ⟨b, 7, none⟩ (.int .i64 (calls + 1))).setCell ⟨b, 8, none⟩ (.bool d)).drew.heap[b]? = some (.cells (tapeCells s0 s1 lv room crash keep torn (calls + 1) d) 56 (0, 0)) ∧
      Fr w ((w.setCell ⟨b, 7, none⟩ (.int .i64 (calls + 1))).setCell ⟨b, 8, none⟩ (.bool d)).drew b none :=
    fun d => ⟨blk_set (blk_set HB.out 7 (.int .i64 (calls + 1))) 8 (.bool d), (((Fr.refl _ _ _).set _ _).set _ _).drew⟩
  have KEY := Lib.hid key
  clear key
  by_cases hc : crash = calls + 1
  · subst hc
    go_enter Tryd.func59, Tryd.ntmps59
    go_wp2
    go_region
    go_wp2
    go_ret
    exact ⟨by simp, by simpa using KEY.out true⟩
  · have hd : (crash == calls + 1) = false := by simpa using hc
    have HC := Lib.hid hc
    clear hc
    go_enter Tryd.func59, Tryd.ntmps59
    go_wp2
    go_region
    go_wp2
    go_ret
    exact ⟨rfl, KEY.out false⟩

theorem info69 : (Tryd.prog.info? 69).map (fun i => (i.zero, i.size, i.bytes)) = some (some (.agg #[.int .i64 0, .bool false, .string ⟨#[]⟩]), 3, 32) := by kernel_rfl

end Go.Proofs.YtepcagakegbjfaaDoor
/- Walks of package tape: a change is put. -/
namespace Go.Proofs.YtepcagakegbjfaaDoor
open Go.RowKit Go.Proofs.YtepcagakegbjfaaDoorW.PrintWords
open Jr (partF gateF withF Chg cellsOf stepF nowF mores TapeSt putF putC newSt sideF wipeF sealF catF addTot addF cutMore tornL fallF)

def Jr.TapeSt.cells (st : TapeSt) (lv : Value) : Array Value := tapeCells st.s0 st.s1 lv st.room st.crash st.keep st.torn st.calls st.down

def TapeAt (w : World) (base b : Nat) (row : Option Nat) (st : TapeSt) : Prop :=
  ∃ lv, lv.ownBlock = row ∧ base ≤ b ∧ w.heap[b]? = some (.cells (st.cells lv) 56 (0, 0)) ∧ w.ownsRow base 69 3 lv st.loose.length (cellsOf st.loose)

/-- The row behind a call is the old one, or none, or new. -/
def RowOk (w : World) (row row' : Option Nat) : Prop := ∀ k, row' = some k → row = some k ∨ w.heap.size ≤ k

theorem cellsOf_snoc (l : List Chg) (c : Chg) : cellsOf (l ++ [c]) = cellsOf l ++ [.int .i64 c.side, .bool c.wipe, .string c.more] := by simp [cellsOf]

set_option maxHeartbeats 400000 in
theorem put_crash (base b : Nat) (row : Option Nat) (st : TapeSt) (c : Chg) (w : World) (hc0 : 0 ≤ st.calls) (hc1 : st.calls ≤ 1000000000000) (hT : TapeAt w base b row st) (hcr : st.crash = st.calls + 1) :
    Calls Tryd.prog 47 #[.pointer (some ⟨b, 0, none⟩), .agg #[.int .i64 c.side, .bool c.wipe, .string c.more]] w
      fun e w' => e = .returned (.int .i64 16) ∧ TapeAt w' base b row (putF st c) ∧ Fr w w' b row := by
  obtain ⟨lv, hrow, hbase, hB, hO⟩ := hT
  obtain ⟨sd, wp, mr⟩ := c
  have HB := Lib.hid hB
  have HR := Lib.hid hrow
  have HC := Lib.hid hcr
  have hb := blk_lt hB
  clear hB hrow hcr
  go_enter Tryd.func47, Tryd.ntmps47
  go_wp2_with fail
  refine (counted_any b st.s0 st.s1 lv st.room st.crash st.keep st.torn st.calls st.down _ hc0 hc1 (blk_alloc HB.out _)).mono ?_
  rintro e w1 ⟨rfl, hB1, hF1⟩
  rw [if_pos HC.out]
  have HB1 := Lib.hid hB1
  clear hB1
  go_wp2
  go_ret
  have hF : Fr w w1 b none := ((Fr.refl _ _ _).alloc _).trans' hF1
  refine ⟨rfl, ⟨lv, HR.out, hbase, ?_, ?_⟩, hF.mono⟩
  · exact HB1.out
  · have := hF.own hO (fun e => own_ne hO HB.out (by decide) e.symm) (by
      cases h : lv.ownBlock with
      | none => exact .inl rfl
      | some k => exact .inr (by simp))
    simpa [putF, HC.out] using this


theorem one3 (x y z : Value) (hx : x.oneCell' = true) (hy : y.oneCell' = true) (hz : z.oneCell' = true) : ∀ u ∈ [x, y, z], u.oneCell' = true := by
  intro u hu
  simp only [List.mem_cons, List.not_mem_nil, or_false] at hu
  rcases hu with rfl | rfl | rfl <;> assumption

theorem news3 (w : World) (x y z : Value) (t : TypeId) : ∀ j u, [x, y, z][j]? = some u → (w.alloc (.cells #[x, y, z] t)).drew.cell? ((⟨w.heap.size, 0, none⟩ : Addr).add j) = some u := by
  intro j u hu
  exact World.news_of_block (cs := #[x, y, z]) (t := t) (fr := (0, 0)) (heap_alloc_new w (.cells #[x, y, z] t)) j u (by simpa using hu)

set_option maxHeartbeats 400000 in
theorem put_ok (base b : Nat) (row : Option Nat) (st : TapeSt) (c : Chg) (w : World) (hc0 : 0 ≤ st.calls) (hc1 : st.calls ≤ 1000000000000) (hT : TapeAt w base b row st) (hcr : st.crash ≠ st.calls + 1)
    (hn : st.loose.length ≤ 1000000000) (hbs : base ≤ w.heap.size) :
    Calls Tryd.prog 47 #[.pointer (some ⟨b, 0, none⟩), .agg #[.int .i64 c.side, .bool c.wipe, .string c.more]] w
      fun e w' => e = .returned (.int .i64 0) ∧ ∃ row', TapeAt w' base b row' (putF st c) ∧ RowOk w row row' ∧ Fr w w' b row := by
  obtain ⟨lv, hrow, hbase, hB, hO⟩ := hT
  obtain ⟨sd, wp, mr⟩ := c
  obtain ⟨i0, hi, hz0, hz1, hz2⟩ := info_parts info69
  have HB := Lib.hid hB
  have HR := Lib.hid hrow
  have HC := Lib.hid hcr
  have hb := blk_lt hB
  have Hi := Lib.hid hi
  have Hz0 := Lib.hid hz0
  have Hz1 := Lib.hid hz1
  have Hz2 := Lib.hid hz2
  clear hB hrow hcr hi hz0 hz1 hz2
  go_enter Tryd.func47, Tryd.ntmps47
  go_wp2_with fail
  refine (counted_any b st.s0 st.s1 lv st.room st.crash st.keep st.torn st.calls st.down _ hc0 hc1 (blk_alloc HB.out _)).mono ?_
  rintro e w1 ⟨rfl, hB1, hF1⟩
  rw [if_neg HC.out]
  have hF : Fr w w1 b none := ((Fr.refl _ _ _).alloc _).trans' hF1
  have hnb : lv.ownBlock ≠ some b := fun e => own_ne hO HB.out (by decide) e.symm
  have hO1 := hF.own hO hnb (by
      cases h : lv.ownBlock with
      | none => exact .inl rfl
      | some k => exact .inr (by simp))
  have k2 : w1.cell? ⟨b, 2, none⟩ = some lv := blk_cell hB1 2
  have g2 := blk_frozen hB1 2
  have jB := hF1.keep (blk_new w (Obj.cells #[.int .i64 sd, .bool wp, .string mr] 69)) (by omega) (by simp)
  have j0 := blk_cell jB 0
  have j1 := blk_cell jB 1
  have j2 := blk_cell jB 2
  have OWN := Lib.hid ((hO1.alloc (.cells #[.int .i64 sd, .bool wp, .string mr] 69)).drew)
  have NEWS := Lib.hid (news3 w1 (.int .i64 sd) (.bool wp) (.string mr) 69)
  have hb1 := blk_lt hB1
  have HB1 := Lib.hid hB1
  have HF := Lib.hid hF
  have HNB := Lib.hid hnb
  have hsz := hF.size
  clear hB1 hF hO1 hF1 hO hnb jB
  go_wp2
  go_region_law (refine step_append_lies _ rfl (.tmp 15) (.tmp 17) 54 rfl base 69 i0 (.agg #[.int .i64 0, .bool false, .string ⟨#[]⟩]) 3 32 Tryd.underlying54 Hi.out Hz0.out Hz1.out Hz2.out rfl (by decide) lv st.loose.length (cellsOf st.loose) rfl OWN.out ⟨w1.heap.size, 0, none⟩ 1 1 [.int .i64 sd, .bool wp, .string mr] rfl rfl NEWS.out (one3 _ _ _ rfl rfl rfl) (by omega) (by unfold maxLen; omega) (by omega) (by simp; omega) (w1.heap.size + 1) (by simp) ?_; intro g cap w2 hown2 hgr2 hat hlt; have hB2 := blk_grown (blk_drew (blk_alloc HB1.out _)) hgr2 (fun e => HNB.out e.symm); have q2 : w2.cell? ⟨b, 2, none⟩ = some lv := blk_cell hB2 2; have r2 := blk_frozen hB2 2; have HB2 := Lib.hid hB2; clear hB2)
  all_goals
    go_wp2
    go_ret
    have hFF : Fr w w2 b row := by
      refine (HF.out.mono.alloc _).drew.trans (Fr.of_grown hgr2 b) (fun j hj => .inl (HR.out.symm.trans hj))
    have hgb : g ≠ b := by
      rcases hat with hat | hat
      · intro e; exact HNB.out (by rw [hat, e])
      · omega
    refine ⟨rfl, some g, ⟨_, rfl, hbase, blk_set HB2.out 2 _, ?_⟩, ?_, hFF.set _ _⟩
    · have := own_setCell hown2 (p := ⟨b, 2, none⟩) (by simp only [Value.ownBlock, ne_eq, Option.some.injEq]; omega) (.slice (some ⟨g, 0, none⟩) (st.loose.length + 1) cap)
      simpa [putF, HC.out, cellsOf_snoc] using this
    · intro k hk
      rcases hat with hat | hat
      · left; rw [← HR.out, hat]; exact hk
      · right
        have : g = k := by simpa using hk
        omega
end Go.Proofs.YtepcagakegbjfaaDoor
/- Walks of package tape: the methods. -/
namespace Go.Proofs.YtepcagakegbjfaaDoor
open Go.RowKit Go.Proofs.YtepcagakegbjfaaDoorW.PrintWords
open Jr (partF gateF withF Chg cellsOf stepF nowF mores TapeSt putF putC newSt sideF wipeF sealF catF addTot addF cutMore tornL fallF)

theorem put_any (base b : Nat) (row : Option Nat) (st : TapeSt) (c : Chg) (w : World) (hc0 : 0 ≤ st.calls) (hc1 : st.calls ≤ 1000000000000) (hT : TapeAt w base b row st)
    (hn : st.loose.length ≤ 1000000000) (hbs : base ≤ w.heap.size) :
    Calls Tryd.prog 47 #[.pointer (some ⟨b, 0, none⟩), .agg #[.int .i64 c.side, .bool c.wipe, .string c.more]] w
      fun e w' => e = .returned (.int .i64 (putC st)) ∧ ∃ row', TapeAt w' base b row' (putF st c) ∧ RowOk w row row' ∧ Fr w w' b row := by
  by_cases h : st.crash = st.calls + 1
  · rw [show putC st = 16 from if_pos h]
    exact (put_crash base b row st c w hc0 hc1 hT h).mono fun e w' ⟨h1, h2, h3⟩ => ⟨h1, row, h2, fun k hk => .inl hk, h3⟩
  · rw [show putC st = 0 from if_neg h]
    exact put_ok base b row st c w hc0 hc1 hT h hn hbs

set_option maxHeartbeats 400000 in
theorem new_any (room crash keep torn : Int) (w : World) :
    Calls Tryd.prog 11 #[.agg #[.int .i64 room, .int .i64 crash, .int .i64 keep, .int .i64 torn]] w
      fun e w' => ∃ g, e = .returned (.pointer (some ⟨g, 0, none⟩)) ∧ TapeAt w' w.heap.size g none (newSt room crash keep torn) ∧ Below w.heap.size w w' := by
  go_enter Tryd.func11, Tryd.ntmps11
  go_wp2
  go_ret
  exact ⟨w.heap.size + 1, rfl, ⟨.slice none 0 0, rfl, by omega, blk_new1 _ _ _, own_nil _ _ _ _⟩, below2 _ _ _⟩

set_option maxHeartbeats 400000 in
theorem down_nil (w : World) : Calls Tryd.prog 22 #[.pointer none] w fun e w' => e = .returned (.bool false) ∧ w = w' := by
  go_enter Tryd.func22, Tryd.ntmps22
  go_wp2
  go_ret
  exact ⟨rfl, rfl⟩

theorem TapeAt.cell {w : World} {base b : Nat} {row : Option Nat} {st : TapeSt} (hT : TapeAt w base b row st) : ∃ lv, w.cell? ⟨b, 0, none⟩ = some (.string st.s0) ∧ w.cell? ⟨b, 1, none⟩ = some (.string st.s1) ∧ w.cell? ⟨b, 2, none⟩ = some lv ∧
    w.cell? ⟨b, 3, none⟩ = some (.int .i64 st.room) ∧ w.cell? ⟨b, 4, none⟩ = some (.int .i64 st.crash) ∧ w.cell? ⟨b, 5, none⟩ = some (.int .i64 st.keep) ∧ w.cell? ⟨b, 6, none⟩ = some (.int .i64 st.torn) ∧
    w.cell? ⟨b, 7, none⟩ = some (.int .i64 st.calls) ∧ w.cell? ⟨b, 8, none⟩ = some (.bool st.down) ∧ b < w.heap.size ∧ base ≤ b := by
  obtain ⟨lv, _, hb, hB, _⟩ := hT
  exact ⟨lv, blk_cell hB 0, blk_cell hB 1, blk_cell hB 2, blk_cell hB 3, blk_cell hB 4, blk_cell hB 5, blk_cell hB 6, blk_cell hB 7, blk_cell hB 8, blk_lt hB, hb⟩

set_option maxHeartbeats 400000 in
theorem down_any (base b : Nat) (row : Option Nat) (st : TapeSt) (w : World) (hT : TapeAt w base b row st) :
    Calls Tryd.prog 22 #[.pointer (some ⟨b, 0, none⟩)] w fun e w' => e = .returned (.bool st.down) ∧ w = w' := by
  obtain ⟨lv, c0, c1, c2, c3, c4, c5, c6, c7, c8, hb, hbase⟩ := hT.cell
  clear c0 c1 c2 c3 c4 c5 c6 c7
  go_enter Tryd.func22, Tryd.ntmps22
  go_wp2
  go_ret
  exact ⟨rfl, rfl⟩

end Go.Proofs.YtepcagakegbjfaaDoor
/- Walks of package tape: what is on it, a side, a wipe, a seal. -/
namespace Go.Proofs.YtepcagakegbjfaaDoor
open Go.RowKit Go.Proofs.YtepcagakegbjfaaDoorW.PrintWords
open Jr (partF gateF withF Chg cellsOf stepF nowF mores TapeSt putF putC newSt sideF wipeF sealF catF addTot addF cutMore tornL fallF)

theorem cellsOf_get (l : List Chg) : ∀ (k : Nat) (h : k < l.length), (cellsOf l)[k * 3]? = some (.int .i64 l[k].side) ∧ (cellsOf l)[k * 3 + 1]? = some (.bool l[k].wipe) ∧ (cellsOf l)[k * 3 + 2]? = some (.string l[k].more) := by
  induction l with
  | nil => intro k h; simp at h
  | cons c l ih =>
    intro k h
    have e : cellsOf (c :: l) = [.int .i64 c.side, .bool c.wipe, .string c.more] ++ cellsOf l := rfl
    cases k with
    | zero => simp [e]
    | succ k =>
      have := ih k (by simpa using h)
      rw [show (k + 1) * 3 = k * 3 + 3 by omega, show k * 3 + 3 + 1 = (k * 3 + 1) + 3 by omega, show k * 3 + 3 + 2 = (k * 3 + 2) + 3 by omega, e]
      simpa using this

theorem own_cells {w : World} {base g n cap size : Nat} {e : TypeId} {xs : List Value} (h : w.ownsRow base e size (.slice (some ⟨g, 0, none⟩) n cap) n xs) (j : Nat) (u : Value) (hj : xs[j]? = some u) : w.cell? ⟨g, j, none⟩ = some u ∧ g < w.heap.size := by
  rcases h.2 with ⟨hv, _⟩ | ⟨g', cap', cur, hv, _, hh, _, _, _, hx⟩
  · cases hv
  · injection hv with hv hn hc
    injection hv with hv
    injection hv with hv
    subst hv
    refine ⟨?_, blk_lt hh⟩
    rw [blk_cell hh j, ← hj, ← hx, List.getElem?_take]
    have hl : j < xs.length := (List.getElem?_eq_some_iff.1 hj).1
    rw [if_pos (by rw [← hx] at hl; simp at hl; omega)]
    simp

structure Jr.TapeSt.Ok (st : TapeSt) : Prop where
  side : ∀ c ∈ st.loose, 0 ≤ c.side ∧ c.side < 2
  size : st.s0.size + st.s1.size + mores st.loose ≤ 1000000000000
  many : st.loose.length ≤ 1000000000
  calls0 : 0 ≤ st.calls
  calls1 : st.calls ≤ 1000000000000

set_option maxHeartbeats 400000 in
theorem now_nil (b : Nat) (s0 s1 : ByteArray) (w : World) (hbw : b < w.heap.size) (h0 : w.cell? ⟨b, 0, none⟩ = some (.string s0)) (h1 : w.cell? ⟨b, 1, none⟩ = some (.string s1)) (h2 : w.cell? ⟨b, 2, none⟩ = some (.slice none 0 0)) :
    Calls Tryd.prog 33 #[.pointer (some ⟨b, 0, none⟩)] w fun e w' => e = .returned (.agg #[.string s0, .string s1]) ∧ Below w.heap.size w w' := by
  go_enter Tryd.func33, Tryd.ntmps33
  go_wp2
  refine wp_loop_rounds 1 ?_
  rw [rounds_succ]
  go_wp2
  exact bodyPost_ret (v := .agg #[.string s0, .string s1]) (by simp [results, Tryd.results33, go_sem]) rfl ⟨rfl, below2 _ _ _⟩

theorem now_any (base b : Nat) (row : Option Nat) (st : TapeSt) (w : World) (hT : TapeAt w base b row st) (hside : ∀ c ∈ st.loose, 0 ≤ c.side ∧ c.side < 2) (hsize : st.s0.size + st.s1.size + mores st.loose ≤ 1000000000000) (hmany : st.loose.length ≤ 1000000000) :
    Calls Tryd.prog 33 #[.pointer (some ⟨b, 0, none⟩)] w fun e w' => e = .returned (.agg #[.string st.now.1, .string st.now.2]) ∧ Below w.heap.size w w' := by
  obtain ⟨lv, hr, hb, hB, hO⟩ := hT
  have c2 : w.cell? ⟨b, 2, none⟩ = some lv := blk_cell hB 2
  rcases hO.2 with ⟨hv, hn⟩ | ⟨g, cap, cur, hv, hbg, hh, h1, h2, h3, h4⟩
  · have e : st.now = (st.s0, st.s1) := by
      unfold TapeSt.now
      rw [List.length_eq_zero_iff.1 hn]; rfl
    rw [e]
    exact now_nil b st.s0 st.s1 w (blk_lt hB) (blk_cell hB 0) (blk_cell hB 1) (by rw [c2, hv])
  · subst hv
    exact now_some b g st.loose.length cap st.s0 st.s1 st.loose w rfl (by omega)
      (fun k hk => by
        obtain ⟨a0, a1, a2⟩ := cellsOf_get st.loose k hk
        exact ⟨(own_cells hO _ _ a0).1, (own_cells hO _ _ a1).1, (own_cells hO _ _ a2).1⟩)
      hside hsize (blk_lt hB) (blk_lt hh) (blk_cell hB 0) (blk_cell hB 1) c2

set_option maxHeartbeats 400000 in
theorem side_nil (n : Int) (w : World) : Calls Tryd.prog 23 #[.pointer none, .int .i64 n] w fun e w' => e = .returned (.tuple #[.string ⟨#[]⟩, .int .i64 2]) ∧ w = w' := by
  go_enter Tryd.func23, Tryd.ntmps23
  go_wp2_with fail
  refine (gate_nil n _).mono ?_
  rintro e w' ⟨rfl, rfl⟩
  go_wp2
  go_ret2
  exact ⟨rfl, rfl⟩

set_option maxHeartbeats 400000 in
theorem side_bad (base b : Nat) (row : Option Nat) (st : TapeSt) (n : Int) (w : World) (hT : TapeAt w base b row st) (hg : gateF st.down n ≠ 0) :
    Calls Tryd.prog 23 #[.pointer (some ⟨b, 0, none⟩), .int .i64 n] w fun e w' => e = .returned (.tuple #[.string ⟨#[]⟩, .int .i64 (gateF st.down n)]) ∧ w = w' := by
  have hc8 : w.cell? ⟨b, 8, none⟩ = some (.bool st.down) := by obtain ⟨lv, _, _, hB, _⟩ := hT; exact blk_cell hB 8
  have HC8 := Lib.hid hc8
  clear hc8 hT
  obtain ⟨gg, hgg⟩ : ∃ gg, gateF st.down n = gg := ⟨_, rfl⟩
  have hne : (gg != 0) = true := by rw [← hgg]; simpa using hg
  have HG := Lib.hid hgg
  clear hgg hg
  go_enter Tryd.func23, Tryd.ntmps23
  go_wp2_with fail
  refine (gate_any b n st.down _ HC8.out).mono ?_
  rintro e w' ⟨rfl, rfl⟩
  rw [HG.out]
  go_wp2
  go_ret2
  exact ⟨by rw [HG.out]; rfl, rfl⟩

set_option maxHeartbeats 400000 in
theorem side_ok0 (base b : Nat) (row : Option Nat) (st : TapeSt) (w : World) (hT : TapeAt w base b row st) (hok : st.Ok) (hd : st.down = false) :
    Calls Tryd.prog 23 #[.pointer (some ⟨b, 0, none⟩), .int .i64 0] w fun e w' => e = .returned (.tuple #[.string st.now.1, .int .i64 0]) ∧ Below w.heap.size w w' := by
  have hc8 : w.cell? ⟨b, 8, none⟩ = some (.bool st.down) := by obtain ⟨lv, _, _, hB, _⟩ := hT; exact blk_cell hB 8
  have HC8 := Lib.hid hc8
  have HD := Lib.hid hd
  clear hc8 hd
  have i0 : ∀ (x y : Value) w, (Instr.index 53 (.agg #[x, y]) (.int .i64 0)).run Tryd.prog w = .ok x w := fun _ _ _ => by kernel_rfl
  go_enter Tryd.func23, Tryd.ntmps23
  go_wp2_with fail
  refine (gate_any b 0 st.down _ HC8.out).mono ?_
  rintro e w' ⟨rfl, rfl⟩
  rw [HD.out, show gateF false 0 = 0 from rfl]
  go_wp2_with fail
  refine (now_any base b row st _ hT hok.side hok.size hok.many).mono ?_
  rintro e w' ⟨rfl, hb⟩
  go_wp2
  go_ret2
  exact ⟨rfl, hb⟩

set_option maxHeartbeats 400000 in
theorem side_ok1 (base b : Nat) (row : Option Nat) (st : TapeSt) (w : World) (hT : TapeAt w base b row st) (hok : st.Ok) (hd : st.down = false) :
    Calls Tryd.prog 23 #[.pointer (some ⟨b, 0, none⟩), .int .i64 1] w fun e w' => e = .returned (.tuple #[.string st.now.2, .int .i64 0]) ∧ Below w.heap.size w w' := by
  have hc8 : w.cell? ⟨b, 8, none⟩ = some (.bool st.down) := by obtain ⟨lv, _, _, hB, _⟩ := hT; exact blk_cell hB 8
  have HC8 := Lib.hid hc8
  have HD := Lib.hid hd
  clear hc8 hd
  have i0 : ∀ (x y : Value) w, (Instr.index 53 (.agg #[x, y]) (.int .i64 1)).run Tryd.prog w = .ok y w := fun _ _ _ => by kernel_rfl
  go_enter Tryd.func23, Tryd.ntmps23
  go_wp2_with fail
  refine (gate_any b 1 st.down _ HC8.out).mono ?_
  rintro e w' ⟨rfl, rfl⟩
  rw [HD.out, show gateF false 1 = 0 from rfl]
  go_wp2_with fail
  refine (now_any base b row st _ hT hok.side hok.size hok.many).mono ?_
  rintro e w' ⟨rfl, hb⟩
  go_wp2
  go_ret2
  exact ⟨rfl, hb⟩

theorem side_any (base b : Nat) (row : Option Nat) (st : TapeSt) (n : Int) (w : World) (hT : TapeAt w base b row st) (hok : st.Ok) :
    Calls Tryd.prog 23 #[.pointer (some ⟨b, 0, none⟩), .int .i64 n] w fun e w' => e = .returned (.tuple #[.string (sideF st n).1, .int .i64 (sideF st n).2]) ∧ Below w.heap.size w w' := by
  unfold sideF
  by_cases hd : st.down = true
  · rw [if_pos hd]
    refine (side_bad base b row st n w hT (by simp [gateF, hd])).mono ?_
    rintro e w' ⟨rfl, rfl⟩
    exact ⟨by simp [gateF, hd], Below.refl _ _⟩
  · rw [if_neg hd]
    have hd' : st.down = false := by simpa using hd
    by_cases hn : n < 0 ∨ 2 ≤ n
    · rw [if_pos hn]
      have hg : gateF st.down n = 1 := by simp [gateF, hd', hn]
      refine (side_bad base b row st n w hT (by rw [hg]; decide)).mono ?_
      rintro e w' ⟨rfl, rfl⟩
      exact ⟨by rw [hg], Below.refl _ _⟩
    · rw [if_neg hn]
      rcases (by omega : n = 0 ∨ n = 1) with rfl | rfl
      · exact side_ok0 base b row st w hT hok hd'
      · exact side_ok1 base b row st w hT hok hd'

end Go.Proofs.YtepcagakegbjfaaDoor
/- Walks of package tape: a wipe, a seal. -/
namespace Go.Proofs.YtepcagakegbjfaaDoor
open Go.RowKit Go.Proofs.YtepcagakegbjfaaDoorW.PrintWords
open Jr (partF gateF withF Chg cellsOf stepF nowF mores TapeSt putF putC newSt sideF wipeF sealF catF addTot addF cutMore tornL fallF)

theorem wpQuiet_do {P : Program} {ops : Array Oper} {C : World → Prop} {Q : Act → Prop} {o : Oper} {rest : List Oper} {a : Act} (v : Value) (hw : Region.wanted o (yielded ops a.tmps) = true)
    (h : ∀ w, C w → o.quietAt P a C w v) (hn : wpQuiet P ops C Q rest (a.put o.dst v)) : wpQuiet P ops C Q (o :: rest) a := by
  unfold wpQuiet
  rw [if_pos hw]
  exact ⟨v, h, hn⟩

theorem TapeAt.below {w w' : World} {base b : Nat} {row : Option Nat} {st : TapeSt} (hT : TapeAt w base b row st) (h : Below w.heap.size w w') : TapeAt w' base b row st := by
  obtain ⟨lv, h1, h2, h3, h4⟩ := hT
  exact ⟨lv, h1, h2, blk_below h3 h, pw_own_below h4 h⟩

theorem RowOk.refl (w : World) (row : Option Nat) : RowOk w row row := fun _ h => .inl h

theorem counted_st (base b : Nat) (row : Option Nat) (st : TapeSt) (w : World) (hc0 : 0 ≤ st.calls) (hc1 : st.calls ≤ 1000000000000) (hT : TapeAt w base b row st) :
    Calls Tryd.prog 59 #[.pointer (some ⟨b, 0, none⟩)] w fun e w' => e = .returned (.int .i64 (if st.crash = st.calls + 1 then 16 else 0)) ∧
      TapeAt w' base b row { st with calls := st.calls + 1, down := decide (st.crash = st.calls + 1) } ∧ Fr w w' b none := by
  obtain ⟨lv, hr, hb, hB, hO⟩ := hT
  refine (counted_any b st.s0 st.s1 lv st.room st.crash st.keep st.torn st.calls st.down w hc0 hc1 hB).mono ?_
  rintro e w1 ⟨rfl, hB1, hF⟩
  exact ⟨rfl, ⟨lv, hr, hb, hB1, hF.own hO (fun e => own_ne hO hB (by decide) e.symm) (by
      cases h : lv.ownBlock with
      | none => exact .inl rfl
      | some k => exact .inr (by simp))⟩, hF⟩

set_option maxHeartbeats 400000 in
theorem wipe_nil (n : Int) (w : World) : Calls Tryd.prog 29 #[.pointer none, .int .i64 n] w fun e w' => e = .returned (.int .i64 2) ∧ w = w' := by
  go_enter Tryd.func29, Tryd.ntmps29
  go_wp2_with fail
  refine (gate_nil n _).mono ?_
  rintro e w' ⟨rfl, rfl⟩
  go_wp2
  go_ret
  exact ⟨rfl, rfl⟩

theorem TapeAt.c8 {w : World} {base b : Nat} {row : Option Nat} {st : TapeSt} (hT : TapeAt w base b row st) : w.cell? ⟨b, 8, none⟩ = some (.bool st.down) := by
  obtain ⟨lv, _, _, hB, _⟩ := hT; exact blk_cell hB 8

set_option maxHeartbeats 400000 in
theorem wipe_any (base b : Nat) (row : Option Nat) (st : TapeSt) (n : Int) (w : World) (hT : TapeAt w base b row st) (hok : st.Ok) (hbs : base ≤ w.heap.size) :
    Calls Tryd.prog 29 #[.pointer (some ⟨b, 0, none⟩), .int .i64 n] w
      fun e w' => e = .returned (.int .i64 (wipeF st n).2) ∧ ∃ row', TapeAt w' base b row' (wipeF st n).1 ∧ RowOk w row row' ∧ Fr w w' b row := by
  obtain ⟨gg, hgg⟩ : ∃ gg, gateF st.down n = gg := ⟨_, rfl⟩
  have HG := Lib.hid hgg
  clear hgg
  by_cases hz : gg = 0
  · subst hz
    go_enter Tryd.func29, Tryd.ntmps29
    go_wp2_with fail
    refine (gate_any b n st.down _ hT.c8).mono ?_
    rintro e w' ⟨rfl, rfl⟩
    rw [HG.out]
    go_wp2_with fail
    refine (put_any base b row st ⟨n, true, ⟨#[]⟩⟩ _ hok.calls0 hok.calls1 hT hok.many hbs).mono ?_
    rintro e w' ⟨rfl, row', hT', hrow, hF⟩
    go_wp2
    go_ret
    rw [show wipeF st n = (putF st ⟨n, true, ⟨#[]⟩⟩, putC st) from by simp [wipeF, HG.out]]
    exact ⟨rfl, row', hT', hrow, hF⟩
  · have hne : (gg != 0) = true := by simpa using hz
    have HZ := Lib.hid hz
    clear hz
    go_enter Tryd.func29, Tryd.ntmps29
    go_wp2_with fail
    refine (gate_any b n st.down _ hT.c8).mono ?_
    rintro e w' ⟨rfl, rfl⟩
    rw [HG.out]
    go_wp2
    go_ret
    have hg : ¬ gateF st.down n = 0 := by rw [HG.out]; exact HZ.out
    rw [show wipeF st n = (st, gateF st.down n) from by simp [wipeF, hg]]
    exact ⟨by rw [HG.out]; rfl, row, hT, RowOk.refl _ _, Fr.refl _ _ _⟩

set_option maxHeartbeats 400000 in
theorem seal_nil (w : World) : Calls Tryd.prog 45 #[.pointer none] w fun e w' => e = .returned (.int .i64 2) ∧ w = w' := by
  go_enter Tryd.func45, Tryd.ntmps45
  go_wp2_with fail
  refine (gate_nil 0 _).mono ?_
  rintro e w' ⟨rfl, rfl⟩
  go_wp2
  go_ret
  exact ⟨rfl, rfl⟩

set_option maxHeartbeats 400000 in
theorem seal_any (base b : Nat) (row : Option Nat) (st : TapeSt) (w : World) (hT : TapeAt w base b row st) (hok : st.Ok) :
    Calls Tryd.prog 45 #[.pointer (some ⟨b, 0, none⟩)] w
      fun e w' => e = .returned (.int .i64 (sealF st).2) ∧ ∃ row', TapeAt w' base b row' (sealF st).1 ∧ RowOk w row row' ∧ Fr w w' b row := by
  obtain ⟨dn, hdn⟩ : ∃ dn, st.down = dn := ⟨_, rfl⟩
  have HD := Lib.hid hdn
  clear hdn
  cases dn with
  | true =>
    go_enter Tryd.func45, Tryd.ntmps45
    go_wp2_with fail
    refine (gate_any b 0 st.down _ hT.c8).mono ?_
    rintro e w' ⟨rfl, rfl⟩
    rw [HD.out, show gateF true 0 = 16 from rfl]
    go_wp2
    go_ret
    rw [show sealF st = (st, 16) from by simp [sealF, HD.out]]
    exact ⟨rfl, row, hT, RowOk.refl _ _, Fr.refl _ _ _⟩
  | false =>
    by_cases hcr : st.crash = st.calls + 1
    · have HC := Lib.hid hcr
      clear hcr
      go_enter Tryd.func45, Tryd.ntmps45
      go_wp2_with fail
      refine (gate_any b 0 st.down _ hT.c8).mono ?_
      rintro e w' ⟨rfl, rfl⟩
      rw [HD.out, show gateF false 0 = 0 from rfl]
      go_wp2_with fail
      refine (counted_st base b row st _ hok.calls0 hok.calls1 hT).mono ?_
      rintro e w1 ⟨rfl, hT1, hF⟩
      rw [if_pos HC.out]
      go_wp2
      go_ret
      rw [show sealF st = ({ st with calls := st.calls + 1, down := true }, 16) from by simp [sealF, HD.out, HC.out]]
      exact ⟨rfl, row, by simpa [HC.out] using hT1, RowOk.refl _ _, hF.mono⟩
    · have HC := Lib.hid hcr
      clear hcr
      go_enter Tryd.func45, Tryd.ntmps45
      go_wp2_with fail
      refine (gate_any b 0 st.down _ hT.c8).mono ?_
      rintro e w' ⟨rfl, rfl⟩
      rw [HD.out, show gateF false 0 = 0 from rfl]
      go_wp2_with fail
      refine (counted_st base b row st _ hok.calls0 hok.calls1 hT).mono ?_
      rintro e w1 ⟨rfl, hT1, hF⟩
      rw [if_neg HC.out]
      go_wp2_with fail
      refine (now_any base b row _ _ hT1 hok.side hok.size hok.many).mono ?_
      rintro e w2 ⟨rfl, hb2⟩
      have hT2 := hT1.below hb2
      obtain ⟨lv, hr, hbb, hB, hO⟩ := hT2
      have c0 : w2.cell? ⟨b, 0, none⟩ = some (.string st.s0) := blk_cell hB 0
      have c1 : w2.cell? ⟨b, 1, none⟩ = some (.string st.s1) := blk_cell hB 1
      have c2 : w2.cell? ⟨b, 2, none⟩ = some lv := blk_cell hB 2
      have f0 := blk_frozen hB 0
      have f1 := blk_frozen hB 1
      have f2 := blk_frozen hB 2
      have HB := Lib.hid hB
      clear hB
      go_wp2
      go_ret
      rw [show sealF st = ({ st with calls := st.calls + 1, down := false, s0 := st.now.1, s1 := st.now.2, loose := [] }, 0) from by simp [sealF, HD.out, HC.out]]
      refine ⟨rfl, none, ⟨.slice none 0 0, rfl, hbb, ?_, own_nil _ _ _ _⟩, (fun k h => by cases h), ?_⟩
      · refine (blk_set (blk_set (blk_set HB.out 0 _) 1 _) 2 _).trans ?_
        have hd : decide (st.crash = st.calls + 1) = false := by simp [HC.out]
        simp only [TapeSt.cells, tapeCells, hd]
        rfl
      · exact (((hF.trans' (Fr.of_below hb2 _ _)).mono.set _ _).set _ _).set _ _

end Go.Proofs.YtepcagakegbjfaaDoor
/- Regions that draw their order, whose operations only read and whose callees leave all that was there: one walk of the order of the text; a tail of operations in one forced order may write. -/
namespace Go
open Go.RowKit

open Classical in
/-- A later world in which all that was there is as it was; else the world itself. -/
noncomputable def World.lay (w z : World) : World := if Below w.heap.size w z then z else w

theorem World.lay_below (w z : World) : Below w.heap.size w (w.lay z) := by
  unfold World.lay
  split
  · assumption
  · exact Below.refl _ _
theorem World.lay_of {w z : World} (h : Below w.heap.size w z) : w.lay z = z := by
  unfold World.lay
  rw [if_pos h]
@[go_sem] theorem World.cell?_lay (w z : World) (a : Addr) (h : a.block < w.heap.size) : (w.lay z).cell? a = w.cell? a := (w.lay_below z).cell h
@[go_sem] theorem World.frozen?_lay (w z : World) (a : Addr) (h : a.block < w.heap.size) : (w.lay z).frozen? a = w.frozen? a := (w.lay_below z).frozen h

theorem region_lay {P : Program} {id : Nat} {Q : Exit → Act → World → Prop} {a : Act} {w : World} {l : List Oper} (hm : P.follows .mixedOrders = true) (hB : Region.lexB .any l.toArray = true)
    (h : wpQuiet P l.toArray (fun w' => ∃ z, w' = w.lay z) (fun a' => ∀ w', (∃ z, w' = w.lay z) → Q .normal a' w') l a) : (Code.region id l.toArray true).wp P Q a w :=
  wp_region_quiet (C := fun w' => ∃ z, w' = w.lay z) hm hB ⟨w.drew, (World.lay_of (Below.refl _ _).drew).symm⟩ (by simpa using h)

theorem Calls.lay_of {P : Program} {f : FuncId} {args : Array Value} {w z : World} {v : Value}
    (h : Calls P f args (w.lay z) fun e w' => e = .returned v ∧ Below (w.lay z).heap.size (w.lay z) w') : Calls P f args (w.lay z) fun e w'' => e = .returned v ∧ ∃ z, w'' = w.lay z :=
  h.mono fun _ w'' ⟨he, hb⟩ => ⟨he, w'', (World.lay_of ((w.lay_below z).trans (hb.mono (w.lay_below z).size))).symm⟩

theorem Calls.lay_same {P : Program} {f : FuncId} {args : Array Value} {w z : World} {v : Value}
    (h : Calls P f args (w.lay z) fun e w' => e = .returned v ∧ w.lay z = w') : Calls P f args (w.lay z) fun e w'' => e = .returned v ∧ ∃ z, w'' = w.lay z :=
  h.mono fun _ _ ⟨he, hb⟩ => ⟨he, z, hb.symm⟩

/-! ### A head that is quiet in a class, then a tail in one forced order -/
section
variable {P : Program} {ops : Array Oper} {md : Region.Mode} {C : World → Prop}

/-- The first f operations, whichever may come up, are of the head and quiet; then L. -/
def headC (P : Program) (md : Region.Mode) (ops : Array Oper) (C : World → Prop) (n : Nat) (L : Array Bool → Act → Prop) : Nat → Array Bool → Act → Prop
  | 0, done, a => L done a
  | f + 1, done, a => Region.ready md ops done ≠ [] ∧ ∀ i ∈ Region.ready md ops done, i < n ∧ qOp P ops C i (headC P md ops C n L f (done.setIfInBounds i true)) a

theorem headC_any {n g : Nat} {L : Array Bool → Act → Prop} {Q' : Exit → Act → World → Prop} (hL : ∀ done a w, C w → L done a → wpAny P md ops Q' g done a w) :
    ∀ (f : Nat) (done : Array Bool) (a : Act) (w : World), C w → headC P md ops C n L f done a → wpAny P md ops Q' (f + g) done a w := by
  intro f
  induction f with
  | zero => intro done a w hw h; rw [Nat.zero_add]; exact hL _ _ _ hw h
  | succ f ih =>
    intro done a w hw h
    rw [show f + 1 + g = (f + g) + 1 by omega]
    exact ⟨fun h0 => absurd h0 h.1, fun i hi => wpOp_of_qOp hw (fun a' w' hw' h' => ih _ a' w' hw' h') (h.2 i hi).2⟩

theorem headC_first {n i : Nat} {oi : Oper} {v : Value} {L : Array Bool → Act → Prop} (hi : ops[i]? = some oi) (hsel : ∀ (j : Nat) (o : Oper) cs b, ops[j]? = some o → o.op ≠ .select cs b)
    (hs : Region.sinkB md ops n = true) (hc : Region.chainB md ops n = true) (hn : n < ops.size) (hin : i < n) (hdone : ∀ done a, L done a → ∀ j ∈ Region.ready md ops done, n ≤ j) (f : Nat) :
    ∀ (done : Array Bool) (a : Act), HeadInv md ops n done →
      (∀ j oj, ops[j]? = some oj → j ≠ i → done.getD j true = false → (∀ e ∈ oj.after, Region.binds md e = true → e.on ≠ i) → oi.apart ops oj = true) →
      i ∈ Region.ready md ops done → YieldsIn P ops C oi v a → headC P md ops C n L f (done.setIfInBounds i true) (a.put oi.dst v) → headC P md ops C n L (f + 1) done a := by
  induction f with
  | zero =>
    intro done a inv _ hr hy H
    refine ⟨fun h => (by rw [h] at hr; cases hr), fun j hj => ?_⟩
    have hjn : j < n := Nat.lt_of_not_le fun h => tail_waits hs hc hn inv _ i rfl hin (mem_ready.1 hr).1 j h hj
    refine ⟨hjn, ?_⟩
    by_cases hji : j = i
    · subst hji; exact hy.qOp hi H
    · exact absurd (hdone _ _ H j (ready_mono hj hji)) (by omega)
  | succ f ih =>
    intro done a inv hfree hr hy H
    have hun := (mem_ready.1 hr).1
    refine ⟨fun h => (by rw [h] at hr; cases hr), fun j hj => ?_⟩
    have hjn : j < n := Nat.lt_of_not_le fun h => tail_waits hs hc hn inv _ i rfl hin hun j h hj
    refine ⟨hjn, ?_⟩
    by_cases hji : j = i
    · subst hji; exact hy.qOp hi H
    · obtain ⟨hjun, oj, hoj, hall⟩ := mem_ready.1 hj
      have hnot : ∀ e ∈ oj.after, Region.binds md e = true → e.on ≠ i := fun e he hb heq => by
        have h1 := hall e he hb
        rw [heq, getD_both hun] at h1
        cases h1
      refine qOp_mono (fun a' h3 => ih (done.setIfInBounds j true) a' (inv.set hj hjn) (fun k ok hk hki hu hno => ?_) (ready_mono hr (Ne.symm hji)) h3.1 (by rw [Array.setIfInBounds_comm _ _ hji]; exact h3.2))
        (qOp_put hoj (hfree j oj hoj hji hjun hnot) (fun cs b => hsel i oi cs b hi) (fun cs b => hsel j oj cs b hoj) hy (H.2 j (ready_mono hj hji)).2)
      refine hfree k ok hk hki ?_ hno
      by_cases hjk : j = k
      · subst hjk; exact hjun
      · rw [getD_set_ne true hjk] at hu; exact hu

theorem headC_lex {n g : Nat} {Lq : Act → Prop} (hsel : Region.noSelect ops = true) (hs : Region.sinkB md ops n = true) (hc : Region.chainB md ops n = true) (hn : n < ops.size) (l : List Oper) :
    ∀ (k : Nat) (done : Array Bool) (a : Act), (∀ j, j < l.length → l[j]? = ops[k + j]?) → k + l.length = n → HeadInv md ops n done →
    Region.lexHead md ops g l.length k done = true → wpQuiet P ops C Lq l a → headC P md ops C n (fun d a' => Region.seqB md ops g n d = true ∧ Lq a') l.length done a := by
  induction l with
  | nil =>
    intro k done a _ hk _ hB h
    obtain rfl : k = n := by simpa using hk
    exact ⟨by simpa [Region.lexHead] using hB, h⟩
  | cons o l ih =>
    intro k done a hl hk inv hB h
    have h0 : ops[k]? = some o := by simpa using (hl 0 (by simp)).symm
    simp only [List.length_cons, Region.lexHead, Bool.and_eq_true] at hB
    obtain ⟨⟨hr, hf⟩, hB'⟩ := hB
    have hkn : k < n := by simp only [List.length_cons] at hk; omega
    have hr' : k ∈ Region.ready md ops done := by simpa using hr
    have hst : qOp P ops C k (wpQuiet P ops C Lq l) a := by unfold qOp; simp only [h0]; exact h
    obtain ⟨v, hy, hK⟩ := yieldsIn_of_qOp h0 hst
    exact headC_first h0 (Region.noSelect_spec hsel) hs hc hn hkn (fun d a' hL => seqB_ready hL.1) l.length done a inv (Region.free_spec h0 hf) hr' hy
      (ih (k + 1) _ _ (fun j hj => by have := hl (j + 1) (by simp; omega); simpa [Nat.add_assoc, Nat.add_comm 1 j] using this) (by simp only [List.length_cons] at hk; omega) (inv.set hr' hkn) hB' hK)

theorem region_lay_tail {id : Nat} {Q : Exit → Act → World → Prop} {a : Act} {w : World} {l : List Oper} (n : Nat) (hm : P.follows .mixedOrders = true) (hB : Region.lexTailB .any l.toArray n = true)
    (h : wpQuiet P l.toArray (fun w' => ∃ z, w' = w.lay z) (fun a' => ∀ w', (∃ z, w' = w.lay z) → wpList P l.toArray Q (l.drop n) a' w') (l.take n) a) : (Code.region id l.toArray true).wp P Q a w := by
  simp only [Region.lexTailB, Bool.and_eq_true, decide_eq_true_eq] at hB
  obtain ⟨⟨⟨⟨hsel, hn⟩, hs⟩, hc⟩, hlex⟩ := hB
  have hn' : n < l.length := by simpa using hn
  have htl : (l.take n).length = n := by simp; omega
  have hdl : (l.drop n).length = l.toArray.size - n := by simp
  have inv0 : HeadInv .any l.toArray n (Array.replicate l.toArray.size false) :=
    ⟨by simp, fun j oj _ hl => (by rw [getD_replicate_false] at hl; cases hl), fun t _ ht => getD_in (by simpa using ht) (getD_replicate_false _ _)⟩
  have H := headC_lex (C := fun w' => ∃ z, w' = w.lay z) (md := .any) (g := l.toArray.size - n) hsel hs hc hn (l.take n) 0 _ a (fun j hj => by
    have hj' : j < n := by rw [htl] at hj; exact hj
    simp [hj']) (by simpa using htl) inv0 (by rw [htl]; exact hlex) h
  refine wp_region_any hm ?_
  have := headC_any (Q' := Q) (g := l.toArray.size - n) (fun d a' w' hw' hL => by
    have := wpAny_of_seq (md := .any) (Q' := Q) (l.drop n) n d a' w' (fun j => by simp [List.getElem?_drop]) (by rw [hdl]; exact hL.1) (hL.2 w' hw')
    rwa [hdl] at this) _ _ _ { w with drawn := w.drawn + 1 } ⟨w.drew, (World.lay_of (Below.refl _ _).drew).symm⟩ H
  rw [htl, show n + (l.toArray.size - n) = l.toArray.size by omega] at this
  exact this
end
end Go
/- Walks of package tape: an addition. -/
namespace Go.Proofs.YtepcagakegbjfaaDoor
open Go.RowKit Go.Proofs.YtepcagakegbjfaaDoorW.PrintWords
open Jr (partF gateF withF Chg cellsOf stepF nowF mores TapeSt putF putC newSt sideF wipeF sealF catF addTot addF cutMore tornL fallF)

def sizes (l : List ByteArray) : Nat := l.foldr (fun s n => s.size + n) 0

theorem cat_go (l : List ByteArray) : ∀ s : ByteArray, (l.foldl (· ++ ·) s).size = s.size + sizes l := by
  induction l with
  | nil => intro s; simp [sizes]
  | cons x l ih => intro s; simp only [List.foldl_cons, ih, sizes, List.foldr_cons, ByteArray.size_append]; omega
theorem catF_size (l : List ByteArray) : (catF l).size = sizes l := by
  have h := cat_go l ⟨#[]⟩
  have h0 : (⟨#[]⟩ : ByteArray).size = 0 := rfl
  unfold catF
  omega
theorem sizes_take (l : List ByteArray) : ∀ k (h : k < l.length), sizes (l.take k) + l[k].size ≤ sizes l := by
  induction l with
  | nil => intro k h; simp at h
  | cons c l ih =>
    intro k h
    have e2 : sizes (c :: l) = c.size + sizes l := rfl
    cases k with
    | zero => simp [sizes]
    | succ k =>
      have := ih k (by simpa using h)
      have e3 : sizes ((c :: l).take (k + 1)) = c.size + sizes (l.take k) := rfl
      rw [e2, e3]
      simp only [List.getElem_cons_succ]; omega
theorem catF_snoc (l : List ByteArray) (k : Nat) (h : k < l.length) : catF (l.take (k + 1)) = catF (l.take k) ++ l[k] := by
  unfold catF
  rw [List.take_succ_eq_append_getElem h, List.foldl_append]; rfl

/-- A list of texts that is read: its cells. -/
def StrsAt (w : World) (v : Value) (l : List ByteArray) : Prop :=
  (l = [] ∧ ∃ A c, v = .slice A 0 c) ∨ ∃ lb lo c, v = .slice (some ⟨lb, lo, none⟩) l.length c ∧ lb < w.heap.size ∧ ∀ k (h : k < l.length), w.cell? ⟨lb, lo + k, none⟩ = some (.string l[k])

set_option maxHeartbeats 400000 in
theorem add_nil (n : Int) (v : Value) (w : World) : Calls Tryd.prog 44 #[.pointer none, .int .i64 n, v] w fun e w' => e = .returned (.int .i64 2) ∧ w = w' := by
  go_enter Tryd.func44, Tryd.ntmps44
  go_wp2_with fail
  refine (gate_nil n _).mono ?_
  rintro e w' ⟨rfl, rfl⟩
  go_wp2
  go_ret
  exact ⟨rfl, rfl⟩

set_option maxHeartbeats 400000 in
theorem add_bad (base b : Nat) (row : Option Nat) (st : TapeSt) (n : Int) (v : Value) (w : World) (hT : TapeAt w base b row st) (hg : gateF st.down n ≠ 0) :
    Calls Tryd.prog 44 #[.pointer (some ⟨b, 0, none⟩), .int .i64 n, v] w fun e w' => e = .returned (.int .i64 (gateF st.down n)) ∧ w = w' := by
  obtain ⟨gg, hgg⟩ : ∃ gg, gateF st.down n = gg := ⟨_, rfl⟩
  have hne : (gg != 0) = true := by rw [← hgg]; simpa using hg
  have HG := Lib.hid hgg
  clear hgg hg
  go_enter Tryd.func44, Tryd.ntmps44
  go_wp2_with fail
  refine (gate_any b n st.down _ hT.c8).mono ?_
  rintro e w' ⟨rfl, rfl⟩
  rw [HG.out]
  go_wp2
  go_ret
  exact ⟨by rw [HG.out]; rfl, rfl⟩

set_option maxHeartbeats 800000 in
theorem add_some (base b : Nat) (row : Option Nat) (st : TapeSt) (n : Int) (lb lo c : Nat) (l : List ByteArray) (w : World) (hT : TapeAt w base b row st) (hok : st.Ok) (hbs : base ≤ w.heap.size) (hn0 : 0 ≤ n) (hn1 : n < 2)
    (hd : st.down = false) (hlb : lb < w.heap.size) (hl0 : ∀ k (h : k < l.length), w.cell? ⟨lb, lo + k, none⟩ = some (.string l[k])) (hln : l.length ≤ 1000000000) (hsz : st.s0.size + st.s1.size + mores st.loose + sizes l ≤ 1000000000000) :
    Calls Tryd.prog 44 #[.pointer (some ⟨b, 0, none⟩), .int .i64 n, .slice (some ⟨lb, lo, none⟩) l.length c] w
      fun e w' => e = .returned (.int .i64 (addF st n l).2) ∧ ∃ row', TapeAt w' base b row' (addF st n l).1 ∧ RowOk w row row' ∧ Fr w w' b row := by
  have HL := Lib.hid hl0
  have HD := Lib.hid hd
  have HG : Hid (gateF false n = 0) := Lib.hid (by unfold gateF; rw [if_neg (by decide), if_neg (by omega)])
  clear hl0 hd
  have HT := Lib.hid hT
  have hb := blk_lt hT.choose_spec.2.2.1
  clear hT
  go_enter Tryd.func44, Tryd.ntmps44
  go_wp2_with fail
  refine (gate_any b n st.down _ HT.out.c8).mono ?_
  rintro e w' ⟨rfl, rfl⟩
  rw [HD.out, HG.out]
  go_wp2
  go_loopw [21, 10] (fun i _ wr => ∃ k : Nat, k ≤ l.length ∧ i = .int .i64 k ∧ Below w.heap.size w wr ∧ w.heap.size < wr.heap.size ∧
      wr.heap[w.heap.size]? = some (.cells #[.int .i64 n, .bool false, .string (catF (l.take k))] 69 (0, 0))) (fun i _ _ => l.length - (intOf i).toNat)
  case atStart => exact ⟨0, by omega, rfl, (Below.refl _ _).alloc (Nat.le_refl _) _, by simp, blk_new _ _⟩
  case round =>
    obtain ⟨k, hk, rfl, hbel, hz, hB⟩ := hrel
    have e0 : wr.cell? ⟨w.heap.size, 0, none⟩ = some (.int .i64 n) := blk_cell hB 0
    have e1 : wr.cell? ⟨w.heap.size, 1, none⟩ = some (.bool false) := blk_cell hB 1
    have e2 : wr.cell? ⟨w.heap.size, 2, none⟩ = some (.string (catF (l.take k))) := blk_cell hB 2
    have f2 := blk_frozen hB 2
    have HB := Lib.hid hB
    clear hB
    by_cases hlt : k < l.length
    · have d := (hbel.cell (p := ⟨lb, lo + k, none⟩) hlb).trans (HL.out k hlt)
      have s1 := sizes_take l k hlt
      have s2 := catF_size (l.take k)
      have HS := Lib.hid (catF_snoc l k hlt)
      have s3 : (catF (l.take k)).size + l[k].size ≤ 1000000000000 := by omega
      clear s1 s2
      generalize catF (l.take k) = p at *
      generalize l[k] = q at *
      go_wp2
      go_roundw
      case rel =>
        refine ⟨k + 1, by omega, by go_num, hbel.setCell (by simp) _, by simpa using hz, ?_⟩
        rw [HS.out]
        exact blk_set HB.out 2 (.string (p ++ q))
      case measure => simp [intOf]; omega
    · obtain ⟨m, hm⟩ : ∃ m, catF l = m := ⟨_, rfl⟩
      have hkl : k = l.length := by omega
      have hms : m.size = sizes l := by rw [← hm]; exact catF_size l
      rw [hkl, List.take_length, hm] at e2
      go_wp2
      have hTr := HT.out.below hbel
      have k3 : wr.cell? ⟨b, 3, none⟩ = some (.int .i64 st.room) := by obtain ⟨_, _, _, h, _⟩ := hTr; exact blk_cell h 3
      have hbr : b < wr.heap.size := Nat.lt_of_lt_of_le hb hbel.size
      have HM := Lib.hid hm
      have HK := Lib.hid hkl
      clear hm hkl
      have hns := nowF_size st.loose (st.s0, st.s1)
      have hns1 : st.now.1.size + st.now.2.size + m.size ≤ 1000000000000 := by rw [hms]; exact Nat.le_trans (Nat.add_le_add_right hns _) hsz
      have hws := withF_size st.now.1 st.now.2 n false m
      clear hns hms
      refine region_lay (by kernel_rfl) (by kernel_rfl) ?_
      repeat (go_big_quiet_step (first | (go_at_call 33; exact Calls.lay_of (now_any base b row st _ (hTr.below (wr.lay_below _)) hok.side hok.size hok.many)) | (go_at_call 48; exact Calls.lay_of (with_any _ _ n false m _ hn0 hn1 hns1)) | (go_at_call 58; exact Calls.lay_of (size_any _ _ _ (Nat.le_trans hws hns1)))))
      refine wpQuiet_nil ?_
      rintro _ ⟨zq, rfl⟩
      have hb3 := wr.lay_below zq
      generalize wr.lay zq = w3 at *
      have q0 := (hb3.cell (p := ⟨w.heap.size, 0, none⟩) hz).trans e0
      have q1 := (hb3.cell (p := ⟨w.heap.size, 1, none⟩) hz).trans e1
      have q2 := (hb3.cell (p := ⟨w.heap.size, 2, none⟩) hz).trans e2
      have hT3 := hTr.below hb3
      have hbw3 : Below w.heap.size w w3 := hbel.trans (hb3.mono hbel.size)
      have hbs3 : base ≤ w3.heap.size := by have := hbw3.size; omega
      clear e0 e1 e2 f2 HB hTr k3
      have hg : gateF st.down n = 0 := by rw [HD.out]; exact HG.out
      by_cases hroom : st.room < addTot st n m
      · have ha : addF st n l = (st, 15) := by unfold addF; rw [if_pos hg, HM.out, if_pos hroom]
        have HA := Lib.hid ha
        have hdc : decide (st.room < ↑(withF st.now.1 st.now.2 n false m).1.size + ↑(withF st.now.1 st.now.2 n false m).2.size) = true := by simpa [addTot] using hroom
        have hd2 : st.room < ↑(withF st.now.1 st.now.2 n false m).1.size + ↑(withF st.now.1 st.now.2 n false m).2.size := hroom
        clear ha hg
        go_wp2
        go_ret
        rw [HA.out]
        exact ⟨rfl, row, hT3, RowOk.refl _ _, Fr.of_below hbw3 _ _⟩
      · have ha : addF st n l = (putF st ⟨n, false, m⟩, putC st) := by unfold addF; rw [if_pos hg, HM.out, if_neg hroom]
        have HA := Lib.hid ha
        have hdc : decide (st.room < ↑(withF st.now.1 st.now.2 n false m).1.size + ↑(withF st.now.1 st.now.2 n false m).2.size) = false := by simpa [addTot] using hroom
        have hd2 : ¬ st.room < ↑(withF st.now.1 st.now.2 n false m).1.size + ↑(withF st.now.1 st.now.2 n false m).2.size := hroom
        clear ha hg
        go_wp2_with fail
        refine (put_any base b row st ⟨n, false, m⟩ _ hok.calls0 hok.calls1 hT3 hok.many hbs3).mono ?_
        rintro e w' ⟨rfl, row', hT', hrow, hF⟩
        go_wp2
        go_ret
        rw [HA.out]
        refine ⟨rfl, row', hT', ?_, (Fr.of_below hbw3 _ _).trans' hF⟩
        intro k hk
        rcases hrow k hk with h | h
        · exact .inl h
        · exact .inr (Nat.le_trans hbw3.size h)

set_option maxHeartbeats 800000 in
theorem add_none (base b : Nat) (row : Option Nat) (st : TapeSt) (n : Int) (A : Option Addr) (c : Nat) (w : World) (hT : TapeAt w base b row st) (hok : st.Ok) (hbs : base ≤ w.heap.size) (hn0 : 0 ≤ n) (hn1 : n < 2)
    (hd : st.down = false) :
    Calls Tryd.prog 44 #[.pointer (some ⟨b, 0, none⟩), .int .i64 n, .slice A 0 c] w
      fun e w' => e = .returned (.int .i64 (addF st n []).2) ∧ ∃ row', TapeAt w' base b row' (addF st n []).1 ∧ RowOk w row row' ∧ Fr w w' b row := by
  have HD := Lib.hid hd
  have HG : Hid (gateF false n = 0) := Lib.hid (by unfold gateF; rw [if_neg (by decide), if_neg (by omega)])
  clear hd
  have HT := Lib.hid hT
  have hb := blk_lt hT.choose_spec.2.2.1
  clear hT
  obtain ⟨m, hm⟩ : ∃ m, catF [] = m := ⟨_, rfl⟩
  have hm0 : m = ⟨#[]⟩ := hm.symm
  have hms : m.size = 0 := by rw [hm0]; rfl
  have HM := Lib.hid hm
  clear hm
  go_enter Tryd.func44, Tryd.ntmps44
  go_wp2_with fail
  refine (gate_any b n st.down _ HT.out.c8).mono ?_
  rintro e w' ⟨rfl, rfl⟩
  rw [HD.out, HG.out]
  go_wp2
  refine wp_loop_rounds 1 ?_
  rw [rounds_succ]
  go_wp2
  obtain ⟨wr, hwr⟩ : ∃ wr, w.alloc (Obj.cells #[Value.int IntKind.i64 n, Value.bool false, Value.string { data := #[] }] 69) = wr := ⟨_, rfl⟩
  have hbel : Below w.heap.size w wr := by rw [← hwr]; exact (Below.refl _ _).alloc (Nat.le_refl _) _
  have hz : w.heap.size < wr.heap.size := by rw [← hwr]; simp
  have hB : wr.heap[w.heap.size]? = some (Obj.cells #[Value.int IntKind.i64 n, Value.bool false, Value.string m] 69 (0, 0)) := by rw [← hwr, hm0]; exact blk_new _ _
  rw [hwr]
  clear hwr hm0
  have e0 : wr.cell? ⟨w.heap.size, 0, none⟩ = some (.int .i64 n) := blk_cell hB 0
  have e1 : wr.cell? ⟨w.heap.size, 1, none⟩ = some (.bool false) := blk_cell hB 1
  have e2 : wr.cell? ⟨w.heap.size, 2, none⟩ = some (.string m) := blk_cell hB 2
  clear hB
  have hTr := HT.out.below hbel
  have k3 : wr.cell? ⟨b, 3, none⟩ = some (.int .i64 st.room) := by obtain ⟨_, _, _, h, _⟩ := hTr; exact blk_cell h 3
  have hbr : b < wr.heap.size := Nat.lt_of_lt_of_le hb hbel.size
  have hns := nowF_size st.loose (st.s0, st.s1)
  have hns1 : st.now.1.size + st.now.2.size + m.size ≤ 1000000000000 := by rw [hms]; exact Nat.le_trans hns hok.size
  have hws := withF_size st.now.1 st.now.2 n false m
  clear hns hms
  refine region_lay (by kernel_rfl) (by kernel_rfl) ?_
  repeat (go_big_quiet_step (first | (go_at_call 33; exact Calls.lay_of (now_any base b row st _ (hTr.below (wr.lay_below _)) hok.side hok.size hok.many)) | (go_at_call 48; exact Calls.lay_of (with_any _ _ n false m _ hn0 hn1 hns1)) | (go_at_call 58; exact Calls.lay_of (size_any _ _ _ (Nat.le_trans hws hns1)))))
  refine wpQuiet_nil ?_
  rintro _ ⟨zq, rfl⟩
  have hb3 := wr.lay_below zq
  generalize wr.lay zq = w3 at *
  have q0 := (hb3.cell (p := ⟨w.heap.size, 0, none⟩) hz).trans e0
  have q1 := (hb3.cell (p := ⟨w.heap.size, 1, none⟩) hz).trans e1
  have q2 := (hb3.cell (p := ⟨w.heap.size, 2, none⟩) hz).trans e2
  have hT3 := hTr.below hb3
  have hbw3 : Below w.heap.size w w3 := hbel.trans (hb3.mono hbel.size)
  have hbs3 : base ≤ w3.heap.size := by have := hbw3.size; omega
  clear e0 e1 e2 hTr k3
  have hg : gateF st.down n = 0 := by rw [HD.out]; exact HG.out
  by_cases hroom : st.room < addTot st n m
  · have ha : addF st n [] = (st, 15) := by unfold addF; rw [if_pos hg, HM.out, if_pos hroom]
    have HA := Lib.hid ha
    have hdc : decide (st.room < ↑(withF st.now.1 st.now.2 n false m).1.size + ↑(withF st.now.1 st.now.2 n false m).2.size) = true := by simpa [addTot] using hroom
    have hd2 : st.room < ↑(withF st.now.1 st.now.2 n false m).1.size + ↑(withF st.now.1 st.now.2 n false m).2.size := hroom
    clear ha hg
    go_wp2
    go_ret
    rw [HA.out]
    exact ⟨rfl, row, hT3, RowOk.refl _ _, Fr.of_below hbw3 _ _⟩
  · have ha : addF st n [] = (putF st ⟨n, false, m⟩, putC st) := by unfold addF; rw [if_pos hg, HM.out, if_neg hroom]
    have HA := Lib.hid ha
    have hdc : decide (st.room < ↑(withF st.now.1 st.now.2 n false m).1.size + ↑(withF st.now.1 st.now.2 n false m).2.size) = false := by simpa [addTot] using hroom
    have hd2 : ¬ st.room < ↑(withF st.now.1 st.now.2 n false m).1.size + ↑(withF st.now.1 st.now.2 n false m).2.size := hroom
    clear ha hg
    go_wp2_with fail
    refine (put_any base b row st ⟨n, false, m⟩ _ hok.calls0 hok.calls1 hT3 hok.many hbs3).mono ?_
    rintro e w' ⟨rfl, row', hT', hrow, hF⟩
    go_wp2
    go_ret
    rw [HA.out]
    refine ⟨rfl, row', hT', ?_, (Fr.of_below hbw3 _ _).trans' hF⟩
    intro k hk
    rcases hrow k hk with h | h
    · exact .inl h
    · exact .inr (Nat.le_trans hbw3.size h)

theorem add_any (base b : Nat) (row : Option Nat) (st : TapeSt) (n : Int) (v : Value) (l : List ByteArray) (w : World) (hT : TapeAt w base b row st) (hok : st.Ok) (hbs : base ≤ w.heap.size)
    (hv : StrsAt w v l) (hln : l.length ≤ 1000000000) (hsz : st.s0.size + st.s1.size + mores st.loose + sizes l ≤ 1000000000000) :
    Calls Tryd.prog 44 #[.pointer (some ⟨b, 0, none⟩), .int .i64 n, v] w
      fun e w' => e = .returned (.int .i64 (addF st n l).2) ∧ ∃ row', TapeAt w' base b row' (addF st n l).1 ∧ RowOk w row row' ∧ Fr w w' b row := by
  by_cases hg : gateF st.down n = 0
  · have hd : st.down = false := by
      cases h : st.down with
      | false => rfl
      | true => rw [h] at hg; simp [gateF] at hg
    have hn : 0 ≤ n ∧ n < 2 := by
      rw [hd] at hg
      unfold gateF at hg
      rw [if_neg (by decide)] at hg
      split at hg <;> omega
    rcases hv with ⟨rfl, A, c, rfl⟩ | ⟨lb, lo, c, rfl, h1, h2⟩
    · exact add_none base b row st n A c w hT hok hbs hn.1 hn.2 hd
    · exact add_some base b row st n lb lo c l w hT hok hbs hn.1 hn.2 hd h1 h2 hln hsz
  · refine (add_bad base b row st n v w hT hg).mono ?_
    rintro e w' ⟨rfl, rfl⟩
    have ha : addF st n l = (st, gateF st.down n) := by unfold addF; rw [if_neg hg]
    rw [ha]
    exact ⟨rfl, row, hT, RowOk.refl _ _, Fr.refl _ _ _⟩

end Go.Proofs.YtepcagakegbjfaaDoor
/- Walks of package tape: a fall. -/
namespace Go.Proofs.YtepcagakegbjfaaDoor
open Go.RowKit Go.Proofs.YtepcagakegbjfaaDoorW.PrintWords
open Jr (partF gateF withF Chg cellsOf stepF nowF mores TapeSt putF putC newSt sideF wipeF sealF catF addTot addF cutMore tornL fallF)

set_option maxHeartbeats 400000 in
theorem fall_nil (room crash keep torn : Int) (w : World) :
    Calls Tryd.prog 21 #[.pointer none, .agg #[.int .i64 room, .int .i64 crash, .int .i64 keep, .int .i64 torn]] w
      fun e w' => e = .returned (.tuple #[]) ∧ Below w.heap.size w w' := by
  go_enter Tryd.func21, Tryd.ntmps21
  go_wp2
  exact bodyPost_ret (v := .tuple #[]) (by simp [results, Tryd.results21, go_sem]) rfl ⟨rfl, (Below.refl _ _).alloc (Nat.le_refl _) _⟩

theorem partF_range (n : Int) (m : Nat) : 0 ≤ partF n m ∧ partF n m ≤ m := by
  unfold partF
  split
  · omega
  · have h1 := Int.emod_nonneg n (show (m : Int) + 1 ≠ 0 by omega)
    have h2 := Int.emod_lt_of_pos n (show 0 < (m : Int) + 1 by omega)
    omega

theorem part_at (n m : Int) (t : Nat) (ht : partF n m = t) (hm : 0 ≤ m) (hm2 : m ≤ 1000000000000) (w : World) : Calls Tryd.prog 32 #[.int .i64 n, .int .i64 m] w fun e w' => e = .returned (.int .i64 (t : Int)) ∧ w = w' := by
  rw [← ht]; exact part_any n m hm hm2 w

theorem own_shrink {w : World} {base g n cap size k : Nat} {e : TypeId} {xs : List Value} (h : w.ownsRow base e size (.slice (some ⟨g, 0, none⟩) n cap) n xs) (hk : k ≤ n) :
    w.ownsRow base e size (.slice (some ⟨g, 0, none⟩) k cap) k (xs.take (k * size)) := by
  obtain ⟨h1, h2⟩ := h
  have hks : k * size ≤ n * size := Nat.mul_le_mul_right _ hk
  refine ⟨by rw [List.length_take, h1, Nat.min_eq_left hks], .inr ?_⟩
  rcases h2 with ⟨hv, _⟩ | ⟨g', cap', cur, hv, hg, hh, h3, h4, h5, h6⟩
  · cases hv
  · injection hv with hv hn hc
    injection hv with hv
    injection hv with hv
    subst hv
    subst hc
    exact ⟨g, cap, cur, rfl, hg, hh, by omega, h4, h5, by rw [← h6, List.take_take, Nat.min_eq_left hks]⟩

theorem cellsOf_take (l : List Chg) : ∀ k, cellsOf (l.take k) = (cellsOf l).take (k * 3) := by
  induction l with
  | nil => intro k; simp [cellsOf]
  | cons c l ih =>
    intro k
    cases k with
    | zero => simp [cellsOf]
    | succ k =>
      have e : ∀ m : List Chg, cellsOf (c :: m) = [.int .i64 c.side, .bool c.wipe, .string c.more] ++ cellsOf m := fun _ => rfl
      rw [List.take_succ_cons, e, e, ih, show (k + 1) * 3 = k * 3 + 3 by omega]
      simp

theorem mores_app (a b : List Chg) : mores (a ++ b) = mores a + mores b := by
  induction a with
  | nil => simp [mores]
  | cons c a ih =>
    have e : ∀ m : List Chg, mores (c :: m) = c.more.size + mores m := fun _ => rfl
    rw [List.cons_append, e, e, ih]; omega

theorem Fr.setNew {w w1 : World} {b : Nat} {row : Option Nat} (h : Fr w w1 b row) {p : Addr} (hp : w.heap.size ≤ p.block) (u : Value) : Fr w (w1.setCell p u) b row :=
  ⟨h.os, h.tape, h.output, by simpa [World.setCell] using h.size, fun k hk hb hr => (Below.heap_setCell _ _ _ _ (by omega)).trans (h.block k hk hb hr)⟩

theorem extract_size (s : ByteArray) (n : Nat) : (s.extract 0 n).size ≤ s.size := by simp [ByteArray.size_extract]; omega

theorem set9_heap {w : World} {b : Nat} {s0 s1 : ByteArray} {lv : Value} {r c k t n : Int} {d : Bool} (h : w.heap[b]? = some (.cells (tapeCells s0 s1 lv r c k t n d) 56 (0, 0)))
    (x y : ByteArray) (v : Value) (r' c' k' t' n' : Int) (d' : Bool) :
    (((((((((w.setCell ⟨b, 0, none⟩ (.string x)).setCell ⟨b, 1, none⟩ (.string y)).setCell ⟨b, 2, none⟩ v).setCell ⟨b, 3, none⟩ (.int .i64 r')).setCell ⟨b, 4, none⟩ (.int .i64 c')).setCell ⟨b, 5, none⟩ (.int .i64 k')).setCell ⟨b, 6, none⟩ (.int .i64 t')).setCell ⟨b, 7, none⟩ (.int .i64 n')).setCell ⟨b, 8, none⟩ (.bool d')).heap[b]?
      = some (.cells (tapeCells x y v r' c' k' t' n' d') 56 (0, 0)) := by
  refine (blk_set (blk_set (blk_set (blk_set (blk_set (blk_set (blk_set (blk_set (blk_set h 0 _) 1 _) 2 _) 3 _) 4 _) 5 _) 6 _) 7 _) 8 _).trans ?_
  simp [tapeCells]


set_option maxHeartbeats 1600000 in
theorem fall_torn (base b g cap : Nat) (st : TapeSt) (room crash keep torn : Int) (w : World) (k n : Nat) (hk : k < n)
    (hp : partF keep n = k) (hB : w.heap[b]? = some (.cells (st.cells (.slice (some ⟨g, 0, none⟩) n cap)) 56 (0, 0)))  (hO : w.ownsRow base 69 3 (.slice (some ⟨g, 0, none⟩) n cap) n (cellsOf st.loose)) (hok : st.Ok) (hn : n ≤ 1000000000) (hc : n ≤ cap) (hcap : cap ≤ 9223372036854775807)
    (hbase : base ≤ b) (sd : Int) (rest : List Chg) (hsd : 0 ≤ sd ∧ sd < 2) (mr : ByteArray) (hmk : mores (st.loose.take k) + mr.size ≤ mores st.loose) (hnl : n = st.loose.length) (hdr : st.loose.drop k = ⟨sd, false, mr⟩ :: rest) (hmr : (mr.size : Int) ≤ 1000000000000) (h0 : w.cell? ⟨g, k * 3, none⟩ = some (.int .i64 sd)) (h1 : w.cell? ⟨g, k * 3 + 1, none⟩ = some (.bool false)) (h2 : w.cell? ⟨g, k * 3 + 2, none⟩ = some (.string mr)) (hg : g < w.heap.size) :
    Calls Tryd.prog 21 #[.pointer (some ⟨b, 0, none⟩), .agg #[.int .i64 room, .int .i64 crash, .int .i64 keep, .int .i64 torn]] w
      fun e w' => e = .returned (.tuple #[]) ∧ ∃ row', TapeAt w' base b row' (fallF st room crash keep torn) ∧ RowOk w (some g) row' ∧ Fr w w' b (some g) := by
  have k2 : w.cell? ⟨b, 2, none⟩ = some (.slice (some ⟨g, 0, none⟩) n cap) := blk_cell hB 2
  have f2 := blk_frozen hB 2
  have hb := blk_lt hB
  have hgb : g ≠ b := fun e => own_ne hO hB (by decide) (by rw [e]; rfl)
  have hbg : b ≠ g := fun e => hgb e.symm
  have hbaseg := own_base hO g rfl
  have HNL := Lib.hid hnl
  have HDR := Lib.hid hdr
  have HP := Lib.hid hp
  have HO := Lib.hid hO
  have HB := Lib.hid hB
  clear hp hO hB hnl hdr
  go_enter Tryd.func21, Tryd.ntmps21
  go_wp2_with fail
  refine region_lay (by kernel_rfl) (by kernel_rfl) ?_
  repeat (go_big_quiet_step (first | (go_at_call 32; exact Calls.lay_same (part_any keep n (by omega) (by omega) _))))
  refine wpQuiet_nil ?_
  rintro _ ⟨zq, rfl⟩
  rw [HP.out]
  have hx1 := (((Below.refl w.heap.size w).alloc (Nat.le_refl _) (Obj.cells #[Value.int IntKind.i64 room, Value.int IntKind.i64 crash, Value.int IntKind.i64 keep, Value.int IntKind.i64 torn] 28))).trans ((World.lay_below _ zq).mono (by simp))
  have hpl := blk_below (blk_new w (Obj.cells #[Value.int IntKind.i64 room, Value.int IntKind.i64 crash, Value.int IntKind.i64 keep, Value.int IntKind.i64 torn] 28)) (World.lay_below _ zq)
  generalize (w.alloc (Obj.cells #[Value.int IntKind.i64 room, Value.int IntKind.i64 crash, Value.int IntKind.i64 keep, Value.int IntKind.i64 torn] 28)).lay zq = w1 at *
  have k2' := (hx1.cell (p := ⟨b, 2, none⟩) hb).trans k2
  have f2' := (hx1.frozen (p := ⟨b, 2, none⟩) hb).trans f2
  have h0' := (hx1.cell (p := ⟨g, k * 3, none⟩) hg).trans h0
  have h1' := (hx1.cell (p := ⟨g, k * 3 + 1, none⟩) hg).trans h1
  have h2' := (hx1.cell (p := ⟨g, k * 3 + 2, none⟩) hg).trans h2
  have p0 : w1.cell? ⟨w.heap.size, 0, none⟩ = some (.int .i64 room) := blk_cell hpl 0
  have p1 : w1.cell? ⟨w.heap.size, 1, none⟩ = some (.int .i64 crash) := blk_cell hpl 1
  have p2 : w1.cell? ⟨w.heap.size, 2, none⟩ = some (.int .i64 keep) := blk_cell hpl 2
  have p3 : w1.cell? ⟨w.heap.size, 3, none⟩ = some (.int .i64 torn) := blk_cell hpl 3
  have HPL := Lib.hid hpl
  have hz1 := blk_lt hpl
  clear hpl k2 f2 h0 h1 h2
  go_wp2_with fail
  have ht0 := partF_range torn mr.size
  obtain ⟨tk, htk⟩ : ∃ tk : Nat, partF torn mr.size = tk := ⟨(partF torn mr.size).toNat, by omega⟩
  have htl : tk ≤ mr.size := by omega
  have HTK := Lib.hid htk
  clear htk ht0
  have hB1 := blk_below HB.out hx1
  have hO1 := pw_own_below HO.out hx1
  have hF3 : Fr w ((w1.setCell ⟨b, 2, none⟩ (.slice (some ⟨g, 0, none⟩) k cap)).alloc (Obj.cells #[.int .i64 sd, .bool false, .string mr] 69)) b (some g) :=
    ((Fr.of_below hx1 _ _).set _ _).alloc _
  have hB3 := blk_alloc (blk_set hB1 2 (.slice (some ⟨g, 0, none⟩) k cap)) (Obj.cells #[.int .i64 sd, .bool false, .string mr] 69)
  have hO3 := (own_setCell hO1 (p := ⟨b, 2, none⟩) (by simp only [Value.ownBlock, ne_eq, Option.some.injEq]; omega) (.slice (some ⟨g, 0, none⟩) k cap)).alloc (Obj.cells #[.int .i64 sd, .bool false, .string mr] 69)
  have hC3 := blk_new (w1.setCell ⟨b, 2, none⟩ (.slice (some ⟨g, 0, none⟩) k cap)) (Obj.cells #[.int .i64 sd, .bool false, .string mr] 69)
  have hP3 := blk_alloc (blk_far HPL.out (p := ⟨b, 2, none⟩) (by simp; omega) (.slice (some ⟨g, 0, none⟩) k cap)) (Obj.cells #[.int .i64 sd, .bool false, .string mr] 69)
  have hs1 : (w1.setCell ⟨b, 2, none⟩ (.slice (some ⟨g, 0, none⟩) k cap)).heap.size = w1.heap.size := by simp
  rw [hs1] at hC3
  clear hs1 hB1 hO1 k2' f2' h0' h1' h2' p0 p1 p2 p3
  generalize ((w1.setCell ⟨b, 2, none⟩ (.slice (some ⟨g, 0, none⟩) k cap)).alloc (Obj.cells #[.int .i64 sd, .bool false, .string mr] 69)) = w3 at *
  have p3 : w3.cell? ⟨w.heap.size, 3, none⟩ = some (.int .i64 torn) := blk_cell hP3 3
  have c2 : w3.cell? ⟨w1.heap.size, 2, none⟩ = some (.string mr) := blk_cell hC3 2
  have hz2 := blk_lt hC3
  have hz3 := blk_lt hP3
  have HB3 := Lib.hid hB3
  have HO3 := Lib.hid hO3
  have HC3 := Lib.hid hC3
  have HP3 := Lib.hid hP3
  clear hB3 hO3 hC3 hP3
  refine region_lay_tail 10 (by kernel_rfl) (by kernel_rfl) ?_
  simp only [List.take_succ_cons, List.take_zero, List.drop_succ_cons, List.drop_zero]
  repeat (go_big_quiet_step (first | (go_at_call 32; exact Calls.lay_same (part_at torn mr.size tk HTK.out (by omega) hmr _))))
  refine wpQuiet_nil ?_
  rintro _ ⟨zq, rfl⟩
  have hb4 := w3.lay_below zq
  have hB4 := blk_below HB3.out hb4
  have hO4 := pw_own_below HO3.out hb4
  have hC4 := blk_below HC3.out hb4
  have hP4 := blk_below HP3.out hb4
  have hF4 : Fr w (w3.lay zq) b (some g) := hF3.trans' (Fr.of_below hb4 _ _)
  generalize w3.lay zq = w4 at *
  have c2' : w4.cell? ⟨w1.heap.size, 2, none⟩ = some (.string mr) := blk_cell hC4 2
  have f2' := blk_frozen hC4 2
  have HB4 := Lib.hid hB4
  have HO4 := Lib.hid hO4
  have HC4 := Lib.hid hC4
  have HP4 := Lib.hid hP4
  have hz4 := hb4.size
  clear hB4 hO4 hC4 hP4 c2 p3
  go_wp2_with fail
  have hF5 := hF4.setNew (p := ⟨w1.heap.size, 2, none⟩) hx1.size (.string (mr.extract 0 tk))
  have hg1 : g < w1.heap.size := Nat.lt_of_lt_of_le hg hx1.size
  have hb1 : b < w1.heap.size := Nat.lt_of_lt_of_le hb hx1.size
  have hB5 := blk_far HB4.out (p := ⟨w1.heap.size, 2, none⟩) (by simp; omega) (.string (mr.extract 0 tk))
  have hP5 := blk_far HP4.out (p := ⟨w1.heap.size, 2, none⟩) (by simp; omega) (.string (mr.extract 0 tk))
  have hC5 := blk_set HC4.out 2 (.string (mr.extract 0 tk))
  have hO5 := own_setCell HO4.out (p := ⟨w1.heap.size, 2, none⟩) (by simp only [Value.ownBlock, ne_eq, Option.some.injEq]; omega) (.string (mr.extract 0 tk))
  have hs5 : (w4.setCell ⟨w1.heap.size, 2, none⟩ (.string (mr.extract 0 tk))).heap.size = w4.heap.size := by simp
  clear c2' f2'
  generalize (w4.setCell ⟨w1.heap.size, 2, none⟩ (.string (mr.extract 0 tk))) = w5 at *
  generalize hct : mr.extract 0 tk = ct at *
  have hO5' := own_shrink hO5 (Nat.le_of_lt hk)
  rw [← cellsOf_take] at hO5'
  have d0 : w5.cell? ⟨w1.heap.size, 0, none⟩ = some (.int .i64 sd) := blk_cell hC5 0
  have d1 : w5.cell? ⟨w1.heap.size, 1, none⟩ = some (.bool false) := blk_cell hC5 1
  have d2 : w5.cell? ⟨w1.heap.size, 2, none⟩ = some (.string ct) := blk_cell hC5 2
  have k2 : w5.cell? ⟨b, 2, none⟩ = some (.slice (some ⟨g, 0, none⟩) k cap) := blk_cell hB5 2
  have g2 := blk_frozen hB5 2
  have OWN := Lib.hid ((hO5'.alloc (.cells #[.int .i64 sd, .bool false, .string ct] 69)).drew)
  have NEWS := Lib.hid (news3 w5 (.int .i64 sd) (.bool false) (.string ct) 69)
  have hz5 : w4.heap.size = w5.heap.size := hs5.symm
  have hz6 : w1.heap.size < w5.heap.size := by omega
  have HB5 := Lib.hid hB5
  have HP5 := Lib.hid hP5
  have HCT := Lib.hid hct
  have HF5 := Lib.hid hF5
  have hbs5 : base ≤ w5.heap.size := by omega
  have hb5 : b < w5.heap.size := by omega
  obtain ⟨i0, hi, hz0, hz1', hz2'⟩ := info_parts info69
  have Hi := Lib.hid hi
  have Hz0 := Lib.hid hz0
  have Hz1 := Lib.hid hz1'
  have Hz2 := Lib.hid hz2'
  clear hB5 hP5 hct hF5 hi hz0 hz1' hz2' hs5 hO5 hO5' hC5 hz5 hF4 hF3
  go_region_law (refine step_append_lies _ rfl (.tmp 59) (.tmp 61) 54 rfl base 69 i0 (.agg #[.int .i64 0, .bool false, .string ⟨#[]⟩]) 3 32 Tryd.underlying54 Hi.out Hz0.out Hz1.out Hz2.out rfl (by decide) (.slice (some ⟨g, 0, none⟩) k cap) k (cellsOf (st.loose.take k)) rfl OWN.out ⟨w5.heap.size, 0, none⟩ 1 1 [.int .i64 sd, .bool false, .string ct] rfl rfl NEWS.out (one3 _ _ _ rfl rfl rfl) (by omega) (by unfold maxLen; omega) (by omega) (by simp; omega) (w5.heap.size + 1) (by simp) ?_; intro g' cap' w6 hown6 hgr6 hat6 hlt6; have hB6 := blk_grown (blk_drew (blk_alloc HB5.out _)) hgr6 (by simp only [Value.ownBlock, ne_eq, Option.some.injEq]; omega); have q2 : w6.cell? ⟨b, 2, none⟩ = some (.slice (some ⟨g, 0, none⟩) k cap) := blk_cell hB6 2; have r2 := blk_frozen hB6 2; have HB6 := Lib.hid hB6; clear hB6)
  all_goals
    have hP6 := blk_grown (blk_drew (blk_alloc HP5.out _)) hgr6 (by simp only [Value.ownBlock, ne_eq, Option.some.injEq]; omega)
    have hF6 : Fr w w6 b (some g) := ((HF5.out.alloc _).drew).trans (Fr.of_grown hgr6 b) (fun j hj => .inl (by simpa [Value.ownBlock] using hj))
    have hgb' : g' ≠ b := by
      rcases hat6 with hat | hat
      · simp only [Value.ownBlock, Option.some.injEq] at hat; omega
      · omega
    have hrow' : RowOk w (some g) (some g') := by
      intro j hj
      rcases hat6 with hat | hat
      · simp only [Value.ownBlock, Option.some.injEq] at hat hj; exact .inl (by rw [hat, hj])
      · simp only [Option.some.injEq] at hj; exact .inr (by omega)
    have hT7 : TapeAt (w6.setCell ⟨b, 2, none⟩ (.slice (some ⟨g', 0, none⟩) (k + 1) cap')) base b (some g') { st with loose := st.loose.take k ++ [⟨sd, false, ct⟩] } := by
      refine ⟨_, rfl, hbase, blk_set HB6.out 2 _, ?_⟩
      have := own_setCell hown6 (p := ⟨b, 2, none⟩) (by simp only [Value.ownBlock, ne_eq, Option.some.injEq]; omega) (.slice (some ⟨g', 0, none⟩) (k + 1) cap')
      have hlen : (st.loose.take k ++ [(⟨sd, false, ct⟩ : Chg)]).length = k + 1 := by have := HNL.out; simp; omega
      show World.ownsRow _ base 69 3 _ (st.loose.take k ++ [(⟨sd, false, ct⟩ : Chg)]).length (cellsOf (st.loose.take k ++ [(⟨sd, false, ct⟩ : Chg)]))
      rw [hlen, cellsOf_snoc]
      exact this
    have hP7 := blk_far hP6 (p := ⟨b, 2, none⟩) (by simp; omega) (.slice (some ⟨g', 0, none⟩) (k + 1) cap')
    have hF7 := hF6.set 2 (.slice (some ⟨g', 0, none⟩) (k + 1) cap')
    clear q2 r2 hP6 hF6 hown6 hgr6
    go_wp2_with fail
    generalize (w6.setCell ⟨b, 2, none⟩ (.slice (some ⟨g', 0, none⟩) (k + 1) cap')) = w7 at *
    have l0 : w7.cell? ⟨w.heap.size, 0, none⟩ = some (.int .i64 room) := blk_cell hP7 0
    have l1 : w7.cell? ⟨w.heap.size, 1, none⟩ = some (.int .i64 crash) := blk_cell hP7 1
    have l2 : w7.cell? ⟨w.heap.size, 2, none⟩ = some (.int .i64 keep) := blk_cell hP7 2
    have l3 : w7.cell? ⟨w.heap.size, 3, none⟩ = some (.int .i64 torn) := blk_cell hP7 3
    have hz7 := blk_lt hP7
    have HF7 := Lib.hid hF7
    have HR := Lib.hid hrow'
    clear hP7 hF7 hrow' d0 d1 d2 k2 g2
    have hs7 : ∀ c ∈ st.loose.take k ++ [(⟨sd, false, ct⟩ : Chg)], 0 ≤ c.side ∧ c.side < 2 := by
      intro c hc
      rcases List.mem_append.1 hc with hc | hc
      · exact hok.side c (List.mem_of_mem_take hc)
      · simp only [List.mem_singleton] at hc
        subst hc
        exact hsd
    have hm7 : st.s0.size + st.s1.size + mores (st.loose.take k ++ [(⟨sd, false, ct⟩ : Chg)]) ≤ 1000000000000 := by
      have e1 := mores_app (st.loose.take k) [(⟨sd, false, ct⟩ : Chg)]
      have e2 : mores [(⟨sd, false, ct⟩ : Chg)] = ct.size := by simp [mores]
      have e3 := extract_size mr tk
      have e4 := hok.size
      rw [HCT.out] at e3
      omega
    have HN7 := Lib.hid (fun w' hb => now_any base b (some g') { st with loose := st.loose.take k ++ [⟨sd, false, ct⟩] } w' (hT7.below (w' := w') hb) hs7 hm7 (by simp; omega))
    refine region_lay_tail 6 (by kernel_rfl) (by kernel_rfl) ?_
    simp only [List.take_succ_cons, List.take_zero, List.drop_succ_cons, List.drop_zero]
    repeat (go_big_quiet_step (first | (go_at_call 33; exact Calls.lay_of (HN7.out _ (w7.lay_below _)))))
    refine wpQuiet_nil ?_
    rintro _ ⟨zq9, rfl⟩
    have hb8 := w7.lay_below zq9
    have hT8 := hT7.below hb8
    have hF8 : Fr w (w7.lay zq9) b (some g) := HF7.out.trans' (Fr.of_below hb8 _ _)
    generalize w7.lay zq9 = w8 at *
    obtain ⟨lv8, hr8, _, hB8, hO8⟩ := hT8
    have m0 : w8.cell? ⟨b, 0, none⟩ = some (.string st.s0) := blk_cell hB8 0
    have m1 : w8.cell? ⟨b, 1, none⟩ = some (.string st.s1) := blk_cell hB8 1
    have m2 : w8.cell? ⟨b, 2, none⟩ = some lv8 := blk_cell hB8 2
    have m3 : w8.cell? ⟨b, 3, none⟩ = some (.int .i64 st.room) := blk_cell hB8 3
    have m4 : w8.cell? ⟨b, 4, none⟩ = some (.int .i64 st.crash) := blk_cell hB8 4
    have m5 : w8.cell? ⟨b, 5, none⟩ = some (.int .i64 st.keep) := blk_cell hB8 5
    have m6 : w8.cell? ⟨b, 6, none⟩ = some (.int .i64 st.torn) := blk_cell hB8 6
    have m7 : w8.cell? ⟨b, 7, none⟩ = some (.int .i64 st.calls) := blk_cell hB8 7
    have m8 : w8.cell? ⟨b, 8, none⟩ = some (.bool st.down) := blk_cell hB8 8
    have z0 := blk_frozen hB8 0
    have z1 := blk_frozen hB8 1
    have z2 := blk_frozen hB8 2
    have z3 := blk_frozen hB8 3
    have z4 := blk_frozen hB8 4
    have z5 := blk_frozen hB8 5
    have z6 := blk_frozen hB8 6
    have z7 := blk_frozen hB8 7
    have z8 := blk_frozen hB8 8
    have HB8 := Lib.hid hB8
    have HF8 := Lib.hid hF8
    clear hB8 hO8 hF8 hr8 hT7
    go_wp2
    go_end0
    have hfall : fallF st room crash keep torn = { s0 := (nowF (st.s0, st.s1) (st.loose.take k ++ [(⟨sd, false, ct⟩ : Chg)])).1, s1 := (nowF (st.s0, st.s1) (st.loose.take k ++ [(⟨sd, false, ct⟩ : Chg)])).2, loose := [], room := room, crash := crash, keep := keep, torn := torn, calls := 0, down := false } := by
      unfold fallF
      have e1 : (partF keep st.loose.length).toNat = k := by rw [← HNL.out, HP.out]; rfl
      have e2 : tornL st.loose k torn = st.loose.take k ++ [(⟨sd, false, ct⟩ : Chg)] := by
        unfold tornL
        rw [HDR.out]
        simp only [Bool.false_eq_true, if_false, cutMore, HTK.out, Int.toNat_natCast, HCT.out]
      rw [e1, e2]
    rw [hfall]
    refine ⟨rfl, none, ⟨.slice none 0 0, rfl, hbase, set9_heap HB8.out _ _ _ _ _ _ _ _ _, own_nil _ _ _ _⟩, (fun _ h => by cases h), ?_⟩
    exact ((((((((HF8.out.set _ _).set _ _).set _ _).set _ _).set _ _).set _ _).set _ _).set _ _).set _ _

end Go.Proofs.YtepcagakegbjfaaDoor
/- Walks of package tape: a fall that tears nothing. -/
namespace Go.Proofs.YtepcagakegbjfaaDoor
open Go.RowKit Go.Proofs.YtepcagakegbjfaaDoorW.PrintWords
open Jr (partF gateF withF Chg cellsOf stepF nowF mores TapeSt putF putC newSt sideF wipeF sealF catF addTot addF cutMore tornL fallF)

theorem mores_take_le (l : List Chg) : ∀ k, mores (l.take k) ≤ mores l := by
  induction l with
  | nil => intro k; simp [mores]
  | cons c l ih =>
    intro k
    have e : ∀ m : List Chg, mores (c :: m) = c.more.size + mores m := fun _ => rfl
    cases k with
    | zero => simp [mores]
    | succ k => rw [List.take_succ_cons, e, e]; have := ih k; omega

set_option maxHeartbeats 1600000 in
theorem fall_wipe (base b : Nat) (st : TapeSt) (room crash keep torn : Int) (w : World) (g cap k n : Nat) (hk : k < n) (hc : n ≤ cap) (h1 : w.cell? ⟨g, k * 3 + 1, none⟩ = some (.bool true)) (hg : g < w.heap.size)
    (hB : w.heap[b]? = some (.cells (st.cells (.slice (some ⟨g, 0, none⟩) n cap)) 56 (0, 0))) (hO : w.ownsRow base 69 3 (.slice (some ⟨g, 0, none⟩) n cap) n (cellsOf st.loose)) (hok : st.Ok) (hbase : base ≤ b)
    (hp : partF keep (n : Nat) = (k : Nat)) (htn : tornL st.loose k torn = st.loose.take k) (hnl : n = st.loose.length) :
    Calls Tryd.prog 21 #[.pointer (some ⟨b, 0, none⟩), .agg #[.int .i64 room, .int .i64 crash, .int .i64 keep, .int .i64 torn]] w
      fun e w' => e = .returned (.tuple #[]) ∧ ∃ row', TapeAt w' base b row' (fallF st room crash keep torn) ∧ RowOk w (some g) row' ∧ Fr w w' b (some g) := by
  have k2 : w.cell? ⟨b, 2, none⟩ = some (.slice (some ⟨g, 0, none⟩) n cap) := blk_cell hB 2
  have f2 := blk_frozen hB 2
  have hb := blk_lt hB
  have hgb : g ≠ b := fun e => own_ne hO hB (by decide) (by rw [e]; rfl)
  have hbg : b ≠ g := fun e => hgb e.symm
  have HTN := Lib.hid htn
  have HNL := Lib.hid hnl
  have HP := Lib.hid hp
  have HO := Lib.hid hO
  have HB := Lib.hid hB
  have hmany := hok.many
  have hn1 : n ≤ 1000000000 := by omega
  clear hp hO hB hnl htn
  go_enter Tryd.func21, Tryd.ntmps21
  go_wp2_with fail
  refine region_lay (by kernel_rfl) (by kernel_rfl) ?_
  repeat (go_big_quiet_step (first | (go_at_call 32; exact Calls.lay_same (part_at keep n k HP.out (by omega) (by omega) _))))
  refine wpQuiet_nil ?_
  rintro _ ⟨zq, rfl⟩
  have hx1 := (((Below.refl w.heap.size w).alloc (Nat.le_refl _) (Obj.cells #[Value.int IntKind.i64 room, Value.int IntKind.i64 crash, Value.int IntKind.i64 keep, Value.int IntKind.i64 torn] 28))).trans ((World.lay_below _ zq).mono (by simp))
  have hpl := blk_below (blk_new w (Obj.cells #[Value.int IntKind.i64 room, Value.int IntKind.i64 crash, Value.int IntKind.i64 keep, Value.int IntKind.i64 torn] 28)) (World.lay_below _ zq)
  generalize (w.alloc (Obj.cells #[Value.int IntKind.i64 room, Value.int IntKind.i64 crash, Value.int IntKind.i64 keep, Value.int IntKind.i64 torn] 28)).lay zq = w1 at *
  have k2' := (hx1.cell (p := ⟨b, 2, none⟩) hb).trans k2
  have f2' := (hx1.frozen (p := ⟨b, 2, none⟩) hb).trans f2
  have h1' := (hx1.cell (p := ⟨g, k * 3 + 1, none⟩) hg).trans h1
  clear h1
  have HPL := Lib.hid hpl
  have hz1 := blk_lt hpl
  clear hpl k2 f2
  go_wp2_with fail
  have hB1 := blk_below HB.out hx1
  have hO1 := pw_own_below HO.out hx1
  have hT7 : TapeAt (w1.setCell ⟨b, 2, none⟩ (.slice (some ⟨g, 0, none⟩) k cap)) base b (some g) { st with loose := st.loose.take k } := by
    refine ⟨_, rfl, hbase, blk_set hB1 2 _, ?_⟩
    have := own_setCell (own_shrink hO1 (k := k) (Nat.le_of_lt hk)) (p := ⟨b, 2, none⟩) (by simp only [Value.ownBlock, ne_eq, Option.some.injEq]; omega) (.slice (some ⟨g, 0, none⟩) k cap)
    have hlen : (st.loose.take k).length = k := by have := HNL.out; simp; omega
    show World.ownsRow _ base 69 3 _ (st.loose.take k).length (cellsOf (st.loose.take k))
    rw [hlen, cellsOf_take]
    exact this
  have hP7 := blk_far HPL.out (p := ⟨b, 2, none⟩) (by simp; omega) (.slice (some ⟨g, 0, none⟩) k cap)
  have hF7 : Fr w (w1.setCell ⟨b, 2, none⟩ (.slice (some ⟨g, 0, none⟩) k cap)) b (some g) := (Fr.of_below hx1 _ _).set 2 _
  generalize (w1.setCell ⟨b, 2, none⟩ (.slice (some ⟨g, 0, none⟩) k cap)) = w7 at *
  have l0 : w7.cell? ⟨w.heap.size, 0, none⟩ = some (.int .i64 room) := blk_cell hP7 0
  have l1 : w7.cell? ⟨w.heap.size, 1, none⟩ = some (.int .i64 crash) := blk_cell hP7 1
  have l2 : w7.cell? ⟨w.heap.size, 2, none⟩ = some (.int .i64 keep) := blk_cell hP7 2
  have l3 : w7.cell? ⟨w.heap.size, 3, none⟩ = some (.int .i64 torn) := blk_cell hP7 3
  have hz7 := blk_lt hP7
  have HF7 := Lib.hid hF7
  clear hP7 hF7 hB1 hO1 k2' f2'
  have hs7 : ∀ c ∈ st.loose.take k, 0 ≤ c.side ∧ c.side < 2 := fun c hc => hok.side c (List.mem_of_mem_take hc)
  have hm7 : st.s0.size + st.s1.size + mores (st.loose.take k) ≤ 1000000000000 := by
    have e3 := mores_take_le st.loose k
    have e4 := hok.size
    omega
  have HN7 := Lib.hid (fun w' hb => now_any base b (some g) { st with loose := st.loose.take k } w' (hT7.below (w' := w') hb) hs7 hm7 (by rw [List.length_take]; omega))
  refine region_lay_tail 6 (by kernel_rfl) (by kernel_rfl) ?_
  simp only [List.take_succ_cons, List.take_zero, List.drop_succ_cons, List.drop_zero]
  repeat (go_big_quiet_step (first | (go_at_call 33; exact Calls.lay_of (HN7.out _ (w7.lay_below _)))))
  refine wpQuiet_nil ?_
  rintro _ ⟨zq9, rfl⟩
  have hb8 := w7.lay_below zq9
  have hT8 := hT7.below hb8
  have hF8 : Fr w (w7.lay zq9) b (some g) := HF7.out.trans' (Fr.of_below hb8 _ _)
  generalize w7.lay zq9 = w8 at *
  obtain ⟨lv8, hr8, _, hB8, hO8⟩ := hT8
  have m0 : w8.cell? ⟨b, 0, none⟩ = some (.string st.s0) := blk_cell hB8 0
  have m1 : w8.cell? ⟨b, 1, none⟩ = some (.string st.s1) := blk_cell hB8 1
  have m2 : w8.cell? ⟨b, 2, none⟩ = some lv8 := blk_cell hB8 2
  have m3 : w8.cell? ⟨b, 3, none⟩ = some (.int .i64 st.room) := blk_cell hB8 3
  have m4 : w8.cell? ⟨b, 4, none⟩ = some (.int .i64 st.crash) := blk_cell hB8 4
  have m5 : w8.cell? ⟨b, 5, none⟩ = some (.int .i64 st.keep) := blk_cell hB8 5
  have m6 : w8.cell? ⟨b, 6, none⟩ = some (.int .i64 st.torn) := blk_cell hB8 6
  have m7 : w8.cell? ⟨b, 7, none⟩ = some (.int .i64 st.calls) := blk_cell hB8 7
  have m8 : w8.cell? ⟨b, 8, none⟩ = some (.bool st.down) := blk_cell hB8 8
  have z0 := blk_frozen hB8 0
  have z1 := blk_frozen hB8 1
  have z2 := blk_frozen hB8 2
  have z3 := blk_frozen hB8 3
  have z4 := blk_frozen hB8 4
  have z5 := blk_frozen hB8 5
  have z6 := blk_frozen hB8 6
  have z7 := blk_frozen hB8 7
  have z8 := blk_frozen hB8 8
  have HB8 := Lib.hid hB8
  have HF8 := Lib.hid hF8
  clear hB8 hO8 hF8 hr8 hT7
  go_wp2
  go_end0
  have hfall : fallF st room crash keep torn = { s0 := (nowF (st.s0, st.s1) (st.loose.take k)).1, s1 := (nowF (st.s0, st.s1) (st.loose.take k)).2, loose := [], room := room, crash := crash, keep := keep, torn := torn, calls := 0, down := false } := by
    unfold fallF
    have e1 : (partF keep st.loose.length).toNat = k := by rw [← HNL.out, HP.out]; rfl
    rw [e1, HTN.out]
  rw [hfall]
  refine ⟨rfl, none, ⟨.slice none 0 0, rfl, hbase, set9_heap HB8.out _ _ _ _ _ _ _ _ _, own_nil _ _ _ _⟩, (fun _ h => by cases h), ?_⟩
  exact ((((((((HF8.out.set _ _).set _ _).set _ _).set _ _).set _ _).set _ _).set _ _).set _ _).set _ _

set_option maxHeartbeats 1600000 in
theorem fall_end (base b : Nat) (st : TapeSt) (room crash keep torn : Int) (w : World) (g cap n : Nat) (hc : n < cap) (hcap : cap ≤ 9223372036854775807)
    (hB : w.heap[b]? = some (.cells (st.cells (.slice (some ⟨g, 0, none⟩) n cap)) 56 (0, 0))) (hO : w.ownsRow base 69 3 (.slice (some ⟨g, 0, none⟩) n cap) n (cellsOf st.loose)) (hok : st.Ok) (hbase : base ≤ b)
    (hp : partF keep (n : Nat) = (n : Nat)) (htn : tornL st.loose n torn = st.loose.take n) (hnl : n = st.loose.length) :
    Calls Tryd.prog 21 #[.pointer (some ⟨b, 0, none⟩), .agg #[.int .i64 room, .int .i64 crash, .int .i64 keep, .int .i64 torn]] w
      fun e w' => e = .returned (.tuple #[]) ∧ ∃ row', TapeAt w' base b row' (fallF st room crash keep torn) ∧ RowOk w (some g) row' ∧ Fr w w' b (some g) := by
  have k2 : w.cell? ⟨b, 2, none⟩ = some (.slice (some ⟨g, 0, none⟩) n cap) := blk_cell hB 2
  have f2 := blk_frozen hB 2
  have hb := blk_lt hB
  have hgb : g ≠ b := fun e => own_ne hO hB (by decide) (by rw [e]; rfl)
  have hbg : b ≠ g := fun e => hgb e.symm
  have HTN := Lib.hid htn
  have HNL := Lib.hid hnl
  have HP := Lib.hid hp
  have HO := Lib.hid hO
  have HB := Lib.hid hB
  have hmany := hok.many
  have hn1 : n ≤ 1000000000 := by omega
  clear hp hO hB hnl htn
  go_enter Tryd.func21, Tryd.ntmps21
  go_wp2_with fail
  refine region_lay (by kernel_rfl) (by kernel_rfl) ?_
  repeat (go_big_quiet_step (first | (go_at_call 32; exact Calls.lay_same (part_at keep n n HP.out (by omega) (by omega) _))))
  refine wpQuiet_nil ?_
  rintro _ ⟨zq, rfl⟩
  have hx1 := (((Below.refl w.heap.size w).alloc (Nat.le_refl _) (Obj.cells #[Value.int IntKind.i64 room, Value.int IntKind.i64 crash, Value.int IntKind.i64 keep, Value.int IntKind.i64 torn] 28))).trans ((World.lay_below _ zq).mono (by simp))
  have hpl := blk_below (blk_new w (Obj.cells #[Value.int IntKind.i64 room, Value.int IntKind.i64 crash, Value.int IntKind.i64 keep, Value.int IntKind.i64 torn] 28)) (World.lay_below _ zq)
  generalize (w.alloc (Obj.cells #[Value.int IntKind.i64 room, Value.int IntKind.i64 crash, Value.int IntKind.i64 keep, Value.int IntKind.i64 torn] 28)).lay zq = w1 at *
  have k2' := (hx1.cell (p := ⟨b, 2, none⟩) hb).trans k2
  have f2' := (hx1.frozen (p := ⟨b, 2, none⟩) hb).trans f2
  have HPL := Lib.hid hpl
  have hz1 := blk_lt hpl
  clear hpl k2 f2
  go_wp2_with fail
  have hB1 := blk_below HB.out hx1
  have hO1 := pw_own_below HO.out hx1
  have hT7 : TapeAt (w1.setCell ⟨b, 2, none⟩ (.slice (some ⟨g, 0, none⟩) n cap)) base b (some g) { st with loose := st.loose.take n } := by
    refine ⟨_, rfl, hbase, blk_set hB1 2 _, ?_⟩
    have := own_setCell (own_shrink hO1 (k := n) (Nat.le_refl _)) (p := ⟨b, 2, none⟩) (by simp only [Value.ownBlock, ne_eq, Option.some.injEq]; omega) (.slice (some ⟨g, 0, none⟩) n cap)
    have hlen : (st.loose.take n).length = n := by have := HNL.out; simp; omega
    show World.ownsRow _ base 69 3 _ (st.loose.take n).length (cellsOf (st.loose.take n))
    rw [hlen, cellsOf_take]
    exact this
  have hP7 := blk_far HPL.out (p := ⟨b, 2, none⟩) (by simp; omega) (.slice (some ⟨g, 0, none⟩) n cap)
  have hF7 : Fr w (w1.setCell ⟨b, 2, none⟩ (.slice (some ⟨g, 0, none⟩) n cap)) b (some g) := (Fr.of_below hx1 _ _).set 2 _
  generalize (w1.setCell ⟨b, 2, none⟩ (.slice (some ⟨g, 0, none⟩) n cap)) = w7 at *
  have l0 : w7.cell? ⟨w.heap.size, 0, none⟩ = some (.int .i64 room) := blk_cell hP7 0
  have l1 : w7.cell? ⟨w.heap.size, 1, none⟩ = some (.int .i64 crash) := blk_cell hP7 1
  have l2 : w7.cell? ⟨w.heap.size, 2, none⟩ = some (.int .i64 keep) := blk_cell hP7 2
  have l3 : w7.cell? ⟨w.heap.size, 3, none⟩ = some (.int .i64 torn) := blk_cell hP7 3
  have hz7 := blk_lt hP7
  have HF7 := Lib.hid hF7
  clear hP7 hF7 hB1 hO1 k2' f2'
  have hs7 : ∀ c ∈ st.loose.take n, 0 ≤ c.side ∧ c.side < 2 := fun c hc => hok.side c (List.mem_of_mem_take hc)
  have hm7 : st.s0.size + st.s1.size + mores (st.loose.take n) ≤ 1000000000000 := by
    have e3 := mores_take_le st.loose n
    have e4 := hok.size
    omega
  have HN7 := Lib.hid (fun w' hb => now_any base b (some g) { st with loose := st.loose.take n } w' (hT7.below (w' := w') hb) hs7 hm7 (by rw [List.length_take]; omega))
  refine region_lay_tail 6 (by kernel_rfl) (by kernel_rfl) ?_
  simp only [List.take_succ_cons, List.take_zero, List.drop_succ_cons, List.drop_zero]
  repeat (go_big_quiet_step (first | (go_at_call 33; exact Calls.lay_of (HN7.out _ (w7.lay_below _)))))
  refine wpQuiet_nil ?_
  rintro _ ⟨zq9, rfl⟩
  have hb8 := w7.lay_below zq9
  have hT8 := hT7.below hb8
  have hF8 : Fr w (w7.lay zq9) b (some g) := HF7.out.trans' (Fr.of_below hb8 _ _)
  generalize w7.lay zq9 = w8 at *
  obtain ⟨lv8, hr8, _, hB8, hO8⟩ := hT8
  have m0 : w8.cell? ⟨b, 0, none⟩ = some (.string st.s0) := blk_cell hB8 0
  have m1 : w8.cell? ⟨b, 1, none⟩ = some (.string st.s1) := blk_cell hB8 1
  have m2 : w8.cell? ⟨b, 2, none⟩ = some lv8 := blk_cell hB8 2
  have m3 : w8.cell? ⟨b, 3, none⟩ = some (.int .i64 st.room) := blk_cell hB8 3
  have m4 : w8.cell? ⟨b, 4, none⟩ = some (.int .i64 st.crash) := blk_cell hB8 4
  have m5 : w8.cell? ⟨b, 5, none⟩ = some (.int .i64 st.keep) := blk_cell hB8 5
  have m6 : w8.cell? ⟨b, 6, none⟩ = some (.int .i64 st.torn) := blk_cell hB8 6
  have m7 : w8.cell? ⟨b, 7, none⟩ = some (.int .i64 st.calls) := blk_cell hB8 7
  have m8 : w8.cell? ⟨b, 8, none⟩ = some (.bool st.down) := blk_cell hB8 8
  have z0 := blk_frozen hB8 0
  have z1 := blk_frozen hB8 1
  have z2 := blk_frozen hB8 2
  have z3 := blk_frozen hB8 3
  have z4 := blk_frozen hB8 4
  have z5 := blk_frozen hB8 5
  have z6 := blk_frozen hB8 6
  have z7 := blk_frozen hB8 7
  have z8 := blk_frozen hB8 8
  have HB8 := Lib.hid hB8
  have HF8 := Lib.hid hF8
  clear hB8 hO8 hF8 hr8 hT7
  go_wp2
  go_end0
  have hfall : fallF st room crash keep torn = { s0 := (nowF (st.s0, st.s1) (st.loose.take n)).1, s1 := (nowF (st.s0, st.s1) (st.loose.take n)).2, loose := [], room := room, crash := crash, keep := keep, torn := torn, calls := 0, down := false } := by
    unfold fallF
    have e1 : (partF keep st.loose.length).toNat = n := by rw [← HNL.out, HP.out]; rfl
    rw [e1, HTN.out]
  rw [hfall]
  refine ⟨rfl, none, ⟨.slice none 0 0, rfl, hbase, set9_heap HB8.out _ _ _ _ _ _ _ _ _, own_nil _ _ _ _⟩, (fun _ h => by cases h), ?_⟩
  exact ((((((((HF8.out.set _ _).set _ _).set _ _).set _ _).set _ _).set _ _).set _ _).set _ _).set _ _

set_option maxHeartbeats 1600000 in
theorem fall_full (base b : Nat) (st : TapeSt) (room crash keep torn : Int) (w : World) (g n : Nat) (hcap : n ≤ 9223372036854775807)
    (hB : w.heap[b]? = some (.cells (st.cells (.slice (some ⟨g, 0, none⟩) n n)) 56 (0, 0))) (hO : w.ownsRow base 69 3 (.slice (some ⟨g, 0, none⟩) n n) n (cellsOf st.loose)) (hok : st.Ok) (hbase : base ≤ b)
    (hp : partF keep (n : Nat) = (n : Nat)) (htn : tornL st.loose n torn = st.loose.take n) (hnl : n = st.loose.length) :
    Calls Tryd.prog 21 #[.pointer (some ⟨b, 0, none⟩), .agg #[.int .i64 room, .int .i64 crash, .int .i64 keep, .int .i64 torn]] w
      fun e w' => e = .returned (.tuple #[]) ∧ ∃ row', TapeAt w' base b row' (fallF st room crash keep torn) ∧ RowOk w (some g) row' ∧ Fr w w' b (some g) := by
  have k2 : w.cell? ⟨b, 2, none⟩ = some (.slice (some ⟨g, 0, none⟩) n n) := blk_cell hB 2
  have f2 := blk_frozen hB 2
  have hb := blk_lt hB
  have hgb : g ≠ b := fun e => own_ne hO hB (by decide) (by rw [e]; rfl)
  have hbg : b ≠ g := fun e => hgb e.symm
  have HTN := Lib.hid htn
  have HNL := Lib.hid hnl
  have HP := Lib.hid hp
  have HO := Lib.hid hO
  have HB := Lib.hid hB
  have hmany := hok.many
  have hn1 : n ≤ 1000000000 := by omega
  clear hp hO hB hnl htn
  go_enter Tryd.func21, Tryd.ntmps21
  go_wp2_with fail
  refine region_lay (by kernel_rfl) (by kernel_rfl) ?_
  repeat (go_big_quiet_step (first | (go_at_call 32; exact Calls.lay_same (part_at keep n n HP.out (by omega) (by omega) _))))
  refine wpQuiet_nil ?_
  rintro _ ⟨zq, rfl⟩
  have hx1 := (((Below.refl w.heap.size w).alloc (Nat.le_refl _) (Obj.cells #[Value.int IntKind.i64 room, Value.int IntKind.i64 crash, Value.int IntKind.i64 keep, Value.int IntKind.i64 torn] 28))).trans ((World.lay_below _ zq).mono (by simp))
  have hpl := blk_below (blk_new w (Obj.cells #[Value.int IntKind.i64 room, Value.int IntKind.i64 crash, Value.int IntKind.i64 keep, Value.int IntKind.i64 torn] 28)) (World.lay_below _ zq)
  generalize (w.alloc (Obj.cells #[Value.int IntKind.i64 room, Value.int IntKind.i64 crash, Value.int IntKind.i64 keep, Value.int IntKind.i64 torn] 28)).lay zq = w1 at *
  have k2' := (hx1.cell (p := ⟨b, 2, none⟩) hb).trans k2
  have f2' := (hx1.frozen (p := ⟨b, 2, none⟩) hb).trans f2
  have HPL := Lib.hid hpl
  have hz1 := blk_lt hpl
  clear hpl k2 f2
  go_wp2_with fail
  have hB1 := blk_below HB.out hx1
  have hO1 := pw_own_below HO.out hx1
  have hT7 : TapeAt (w1.setCell ⟨b, 2, none⟩ (.slice (some ⟨g, 0, none⟩) n n)) base b (some g) { st with loose := st.loose.take n } := by
    refine ⟨_, rfl, hbase, blk_set hB1 2 _, ?_⟩
    have := own_setCell (own_shrink hO1 (k := n) (Nat.le_refl _)) (p := ⟨b, 2, none⟩) (by simp only [Value.ownBlock, ne_eq, Option.some.injEq]; omega) (.slice (some ⟨g, 0, none⟩) n n)
    have hlen : (st.loose.take n).length = n := by have := HNL.out; simp; omega
    show World.ownsRow _ base 69 3 _ (st.loose.take n).length (cellsOf (st.loose.take n))
    rw [hlen, cellsOf_take]
    exact this
  have hP7 := blk_far HPL.out (p := ⟨b, 2, none⟩) (by simp; omega) (.slice (some ⟨g, 0, none⟩) n n)
  have hF7 : Fr w (w1.setCell ⟨b, 2, none⟩ (.slice (some ⟨g, 0, none⟩) n n)) b (some g) := (Fr.of_below hx1 _ _).set 2 _
  generalize (w1.setCell ⟨b, 2, none⟩ (.slice (some ⟨g, 0, none⟩) n n)) = w7 at *
  have l0 : w7.cell? ⟨w.heap.size, 0, none⟩ = some (.int .i64 room) := blk_cell hP7 0
  have l1 : w7.cell? ⟨w.heap.size, 1, none⟩ = some (.int .i64 crash) := blk_cell hP7 1
  have l2 : w7.cell? ⟨w.heap.size, 2, none⟩ = some (.int .i64 keep) := blk_cell hP7 2
  have l3 : w7.cell? ⟨w.heap.size, 3, none⟩ = some (.int .i64 torn) := blk_cell hP7 3
  have hz7 := blk_lt hP7
  have HF7 := Lib.hid hF7
  clear hP7 hF7 hB1 hO1 k2' f2'
  have hs7 : ∀ c ∈ st.loose.take n, 0 ≤ c.side ∧ c.side < 2 := fun c hc => hok.side c (List.mem_of_mem_take hc)
  have hm7 : st.s0.size + st.s1.size + mores (st.loose.take n) ≤ 1000000000000 := by
    have e3 := mores_take_le st.loose n
    have e4 := hok.size
    omega
  have HN7 := Lib.hid (fun w' hb => now_any base b (some g) { st with loose := st.loose.take n } w' (hT7.below (w' := w') hb) hs7 hm7 (by rw [List.length_take]; omega))
  refine region_lay_tail 6 (by kernel_rfl) (by kernel_rfl) ?_
  simp only [List.take_succ_cons, List.take_zero, List.drop_succ_cons, List.drop_zero]
  repeat (go_big_quiet_step (first | (go_at_call 33; exact Calls.lay_of (HN7.out _ (w7.lay_below _)))))
  refine wpQuiet_nil ?_
  rintro _ ⟨zq9, rfl⟩
  have hb8 := w7.lay_below zq9
  have hT8 := hT7.below hb8
  have hF8 : Fr w (w7.lay zq9) b (some g) := HF7.out.trans' (Fr.of_below hb8 _ _)
  generalize w7.lay zq9 = w8 at *
  obtain ⟨lv8, hr8, _, hB8, hO8⟩ := hT8
  have m0 : w8.cell? ⟨b, 0, none⟩ = some (.string st.s0) := blk_cell hB8 0
  have m1 : w8.cell? ⟨b, 1, none⟩ = some (.string st.s1) := blk_cell hB8 1
  have m2 : w8.cell? ⟨b, 2, none⟩ = some lv8 := blk_cell hB8 2
  have m3 : w8.cell? ⟨b, 3, none⟩ = some (.int .i64 st.room) := blk_cell hB8 3
  have m4 : w8.cell? ⟨b, 4, none⟩ = some (.int .i64 st.crash) := blk_cell hB8 4
  have m5 : w8.cell? ⟨b, 5, none⟩ = some (.int .i64 st.keep) := blk_cell hB8 5
  have m6 : w8.cell? ⟨b, 6, none⟩ = some (.int .i64 st.torn) := blk_cell hB8 6
  have m7 : w8.cell? ⟨b, 7, none⟩ = some (.int .i64 st.calls) := blk_cell hB8 7
  have m8 : w8.cell? ⟨b, 8, none⟩ = some (.bool st.down) := blk_cell hB8 8
  have z0 := blk_frozen hB8 0
  have z1 := blk_frozen hB8 1
  have z2 := blk_frozen hB8 2
  have z3 := blk_frozen hB8 3
  have z4 := blk_frozen hB8 4
  have z5 := blk_frozen hB8 5
  have z6 := blk_frozen hB8 6
  have z7 := blk_frozen hB8 7
  have z8 := blk_frozen hB8 8
  have HB8 := Lib.hid hB8
  have HF8 := Lib.hid hF8
  clear hB8 hO8 hF8 hr8 hT7
  go_wp2
  go_end0
  have hfall : fallF st room crash keep torn = { s0 := (nowF (st.s0, st.s1) (st.loose.take n)).1, s1 := (nowF (st.s0, st.s1) (st.loose.take n)).2, loose := [], room := room, crash := crash, keep := keep, torn := torn, calls := 0, down := false } := by
    unfold fallF
    have e1 : (partF keep st.loose.length).toNat = n := by rw [← HNL.out, HP.out]; rfl
    rw [e1, HTN.out]
  rw [hfall]
  refine ⟨rfl, none, ⟨.slice none 0 0, rfl, hbase, set9_heap HB8.out _ _ _ _ _ _ _ _ _, own_nil _ _ _ _⟩, (fun _ h => by cases h), ?_⟩
  exact ((((((((HF8.out.set _ _).set _ _).set _ _).set _ _).set _ _).set _ _).set _ _).set _ _).set _ _

set_option maxHeartbeats 1600000 in
theorem fall_none (base b : Nat) (st : TapeSt) (room crash keep torn : Int) (w : World) 
    (hB : w.heap[b]? = some (.cells (st.cells (.slice none 0 0)) 56 (0, 0))) (hO : w.ownsRow base 69 3 (.slice none 0 0) 0 (cellsOf st.loose)) (hok : st.Ok) (hbase : base ≤ b)
    (hp : partF keep (0 : Nat) = (0 : Nat)) (htn : tornL st.loose 0 torn = st.loose.take 0) (hnl : 0 = st.loose.length) :
    Calls Tryd.prog 21 #[.pointer (some ⟨b, 0, none⟩), .agg #[.int .i64 room, .int .i64 crash, .int .i64 keep, .int .i64 torn]] w
      fun e w' => e = .returned (.tuple #[]) ∧ ∃ row', TapeAt w' base b row' (fallF st room crash keep torn) ∧ RowOk w none row' ∧ Fr w w' b none := by
  have k2 : w.cell? ⟨b, 2, none⟩ = some (.slice none 0 0) := blk_cell hB 2
  have f2 := blk_frozen hB 2
  have hb := blk_lt hB
  have HTN := Lib.hid htn
  have HNL := Lib.hid hnl
  have HP := Lib.hid hp
  have HO := Lib.hid hO
  have HB := Lib.hid hB
  have hmany := hok.many
  have hn1 : 0 ≤ 1000000000 := by omega
  clear hp hO hB hnl htn
  go_enter Tryd.func21, Tryd.ntmps21
  go_wp2_with fail
  refine region_lay (by kernel_rfl) (by kernel_rfl) ?_
  repeat (go_big_quiet_step (first | (go_at_call 32; exact Calls.lay_same (part_at keep 0 0 HP.out (by omega) (by omega) _))))
  refine wpQuiet_nil ?_
  rintro _ ⟨zq, rfl⟩
  have hx1 := (((Below.refl w.heap.size w).alloc (Nat.le_refl _) (Obj.cells #[Value.int IntKind.i64 room, Value.int IntKind.i64 crash, Value.int IntKind.i64 keep, Value.int IntKind.i64 torn] 28))).trans ((World.lay_below _ zq).mono (by simp))
  have hpl := blk_below (blk_new w (Obj.cells #[Value.int IntKind.i64 room, Value.int IntKind.i64 crash, Value.int IntKind.i64 keep, Value.int IntKind.i64 torn] 28)) (World.lay_below _ zq)
  generalize (w.alloc (Obj.cells #[Value.int IntKind.i64 room, Value.int IntKind.i64 crash, Value.int IntKind.i64 keep, Value.int IntKind.i64 torn] 28)).lay zq = w1 at *
  have k2' := (hx1.cell (p := ⟨b, 2, none⟩) hb).trans k2
  have f2' := (hx1.frozen (p := ⟨b, 2, none⟩) hb).trans f2
  have HPL := Lib.hid hpl
  have hz1 := blk_lt hpl
  clear hpl k2 f2
  go_wp2_with fail
  have hB1 := blk_below HB.out hx1
  have hO1 := pw_own_below HO.out hx1
  have hT7 : TapeAt (w1.setCell ⟨b, 2, none⟩ (.slice none 0 0)) base b none { st with loose := st.loose.take 0 } := by
    refine ⟨_, rfl, hbase, blk_set hB1 2 _, ?_⟩
    simp only [List.take_zero]
    exact own_nil _ _ _ _
  have hP7 := blk_far HPL.out (p := ⟨b, 2, none⟩) (by simp; omega) (.slice none 0 0)
  have hF7 : Fr w (w1.setCell ⟨b, 2, none⟩ (.slice none 0 0)) b none := (Fr.of_below hx1 _ _).set 2 _
  generalize (w1.setCell ⟨b, 2, none⟩ (.slice none 0 0)) = w7 at *
  have l0 : w7.cell? ⟨w.heap.size, 0, none⟩ = some (.int .i64 room) := blk_cell hP7 0
  have l1 : w7.cell? ⟨w.heap.size, 1, none⟩ = some (.int .i64 crash) := blk_cell hP7 1
  have l2 : w7.cell? ⟨w.heap.size, 2, none⟩ = some (.int .i64 keep) := blk_cell hP7 2
  have l3 : w7.cell? ⟨w.heap.size, 3, none⟩ = some (.int .i64 torn) := blk_cell hP7 3
  have hz7 := blk_lt hP7
  have HF7 := Lib.hid hF7
  clear hP7 hF7 hB1 hO1 k2' f2'
  have hs7 : ∀ c ∈ st.loose.take 0, 0 ≤ c.side ∧ c.side < 2 := fun c hc => hok.side c (List.mem_of_mem_take hc)
  have hm7 : st.s0.size + st.s1.size + mores (st.loose.take 0) ≤ 1000000000000 := by
    have e3 := mores_take_le st.loose 0
    have e4 := hok.size
    omega
  have HN7 := Lib.hid (fun w' hb => now_any base b none { st with loose := st.loose.take 0 } w' (hT7.below (w' := w') hb) hs7 hm7 (by rw [List.length_take]; omega))
  refine region_lay_tail 6 (by kernel_rfl) (by kernel_rfl) ?_
  simp only [List.take_succ_cons, List.take_zero, List.drop_succ_cons, List.drop_zero]
  repeat (go_big_quiet_step (first | (go_at_call 33; exact Calls.lay_of (HN7.out _ (w7.lay_below _)))))
  refine wpQuiet_nil ?_
  rintro _ ⟨zq9, rfl⟩
  have hb8 := w7.lay_below zq9
  have hT8 := hT7.below hb8
  have hF8 : Fr w (w7.lay zq9) b none := HF7.out.trans' (Fr.of_below hb8 _ _)
  generalize w7.lay zq9 = w8 at *
  obtain ⟨lv8, hr8, _, hB8, hO8⟩ := hT8
  have m0 : w8.cell? ⟨b, 0, none⟩ = some (.string st.s0) := blk_cell hB8 0
  have m1 : w8.cell? ⟨b, 1, none⟩ = some (.string st.s1) := blk_cell hB8 1
  have m2 : w8.cell? ⟨b, 2, none⟩ = some lv8 := blk_cell hB8 2
  have m3 : w8.cell? ⟨b, 3, none⟩ = some (.int .i64 st.room) := blk_cell hB8 3
  have m4 : w8.cell? ⟨b, 4, none⟩ = some (.int .i64 st.crash) := blk_cell hB8 4
  have m5 : w8.cell? ⟨b, 5, none⟩ = some (.int .i64 st.keep) := blk_cell hB8 5
  have m6 : w8.cell? ⟨b, 6, none⟩ = some (.int .i64 st.torn) := blk_cell hB8 6
  have m7 : w8.cell? ⟨b, 7, none⟩ = some (.int .i64 st.calls) := blk_cell hB8 7
  have m8 : w8.cell? ⟨b, 8, none⟩ = some (.bool st.down) := blk_cell hB8 8
  have z0 := blk_frozen hB8 0
  have z1 := blk_frozen hB8 1
  have z2 := blk_frozen hB8 2
  have z3 := blk_frozen hB8 3
  have z4 := blk_frozen hB8 4
  have z5 := blk_frozen hB8 5
  have z6 := blk_frozen hB8 6
  have z7 := blk_frozen hB8 7
  have z8 := blk_frozen hB8 8
  have HB8 := Lib.hid hB8
  have HF8 := Lib.hid hF8
  clear hB8 hO8 hF8 hr8 hT7
  go_wp2
  go_end0
  have hfall : fallF st room crash keep torn = { s0 := (nowF (st.s0, st.s1) (st.loose.take 0)).1, s1 := (nowF (st.s0, st.s1) (st.loose.take 0)).2, loose := [], room := room, crash := crash, keep := keep, torn := torn, calls := 0, down := false } := by
    unfold fallF
    have e1 : (partF keep st.loose.length).toNat = 0 := by rw [← HNL.out, HP.out]; rfl
    rw [e1, HTN.out]
  rw [hfall]
  refine ⟨rfl, none, ⟨.slice none 0 0, rfl, hbase, set9_heap HB8.out _ _ _ _ _ _ _ _ _, own_nil _ _ _ _⟩, (fun _ h => by cases h), ?_⟩
  exact ((((((((HF8.out.set _ _).set _ _).set _ _).set _ _).set _ _).set _ _).set _ _).set _ _).set _ _

theorem fall_any (base b : Nat) (row : Option Nat) (st : TapeSt) (room crash keep torn : Int) (w : World) (hT : TapeAt w base b row st) (hok : st.Ok) :
    Calls Tryd.prog 21 #[.pointer (some ⟨b, 0, none⟩), .agg #[.int .i64 room, .int .i64 crash, .int .i64 keep, .int .i64 torn]] w
      fun e w' => e = .returned (.tuple #[]) ∧ ∃ row', TapeAt w' base b row' (fallF st room crash keep torn) ∧ RowOk w row row' ∧ Fr w w' b row := by
  obtain ⟨lv, hr, hbase, hB, hO⟩ := hT
  have hpr := partF_range keep st.loose.length
  obtain ⟨k, hk⟩ : ∃ k : Nat, partF keep st.loose.length = k := ⟨(partF keep st.loose.length).toNat, by omega⟩
  have hkl : k ≤ st.loose.length := by omega
  have hmany := hok.many
  rcases hO.2 with ⟨hv, hn⟩ | ⟨g, cap, cur, hv, hbg, hh, h1, h2, h3, h4⟩
  · subst hv
    have hnil : st.loose = [] := List.length_eq_zero_iff.1 hn
    have hk0 : k = 0 := by omega
    subst hk0
    have hr' : row = none := hr.symm
    subst hr'
    rw [hn] at hO hk
    exact fall_none base b st room crash keep torn w hB hO hok hbase hk (by rw [hnil]; rfl) hn.symm
  · subst hv
    have hr' : row = some g := hr.symm
    subst hr'
    have hcap : cap ≤ 9223372036854775807 := by unfold maxLen at h2; omega
    rcases Nat.lt_or_ge k st.loose.length with hlt | hge
    · obtain ⟨a0, a1, a2⟩ := cellsOf_get st.loose k hlt
      have hdr : st.loose.drop k = st.loose[k] :: st.loose.drop (k + 1) := List.drop_eq_getElem_cons hlt
      cases hw : st.loose[k].wipe with
      | true =>
        refine fall_wipe base b st room crash keep torn w g cap k st.loose.length hlt h1 ?_ (blk_lt hh) hB hO hok hbase hk ?_ rfl
        · rw [← hw]; exact (own_cells hO _ _ a1).1
        · unfold tornL; rw [hdr]; simp only [hw, if_true]
      | false =>
        refine fall_torn base b g cap st room crash keep torn w k st.loose.length hlt hk hB hO hok hmany h1 hcap hbase st.loose[k].side (st.loose.drop (k + 1)) (hok.side _ (List.getElem_mem hlt)) st.loose[k].more (mores_take st.loose k hlt) rfl ?_ ?_ (own_cells hO _ _ a0).1 ?_ (own_cells hO _ _ a2).1 (blk_lt hh)
        · rw [hdr, ← hw]
        · have e1 := mores_take st.loose k hlt
          have e2 := hok.size
          omega
        · rw [← hw]; exact (own_cells hO _ _ a1).1
    · have hkn : k = st.loose.length := by omega
      subst hkn
      have ht : tornL st.loose st.loose.length torn = st.loose.take st.loose.length := by unfold tornL; rw [List.drop_length]
      rcases Nat.lt_or_ge st.loose.length cap with hc | hc
      · exact fall_end base b st room crash keep torn w g cap st.loose.length hc hcap hB hO hok hbase hk ht rfl
      · obtain rfl : cap = st.loose.length := by omega
        exact fall_full base b st room crash keep torn w g st.loose.length hcap hB hO hok hbase hk ht rfl

end Go.Proofs.YtepcagakegbjfaaDoor
