/- Walks of package tape: what the sides are behind all changes. -/
import Derived.Test.YtallocndghjoeaaTa
namespace Go.Proofs.Ytallocndghjoeaa
open Go.RowKit Go.Proofs.YtallocndghjoeaaW.PrintWords

structure Chg where
  side : Int
  wipe : Bool
  more : ByteArray

def cellsOf (l : List Chg) : List Value := l.flatMap fun c => [.int .i64 c.side, .bool c.wipe, .string c.more]
def stepF (s : ByteArray × ByteArray) (c : Chg) : ByteArray × ByteArray := withF s.1 s.2 c.side c.wipe c.more
def nowF (s : ByteArray × ByteArray) (l : List Chg) : ByteArray × ByteArray := l.foldl stepF s
def mores (l : List Chg) : Nat := l.foldr (fun c n => c.more.size + n) 0


theorem withF_size (s0 s1 : ByteArray) (side : Int) (wipe : Bool) (more : ByteArray) : (withF s0 s1 side wipe more).1.size + (withF s0 s1 side wipe more).2.size ≤ s0.size + s1.size + more.size := by
  unfold withF
  split <;> cases wipe <;> simp <;> omega

theorem stepF_size (s : ByteArray × ByteArray) (c : Chg) : (stepF s c).1.size + (stepF s c).2.size ≤ s.1.size + s.2.size + c.more.size := withF_size _ _ _ _ _

theorem nowF_size (l : List Chg) : ∀ s : ByteArray × ByteArray, (nowF s l).1.size + (nowF s l).2.size ≤ s.1.size + s.2.size + mores l := by
  induction l with
  | nil => intro s; simp [nowF, mores]
  | cons c l ih =>
    intro s
    have h1 := ih (stepF s c)
    have h2 := stepF_size s c
    have e1 : nowF s (c :: l) = nowF (stepF s c) l := rfl
    have e2 : mores (c :: l) = c.more.size + mores l := rfl
    rw [e1, e2]; omega

theorem mores_take (l : List Chg) : ∀ k (h : k < l.length), mores (l.take k) + l[k].more.size ≤ mores l := by
  induction l with
  | nil => intro k h; simp at h
  | cons c l ih =>
    intro k h
    have e2 : mores (c :: l) = c.more.size + mores l := rfl
    cases k with
    | zero => simp [mores]
    | succ k =>
      have := ih k (by simpa using h)
      have e3 : mores ((c :: l).take (k + 1)) = c.more.size + mores (l.take k) := rfl
      rw [e2, e3]
      simp only [List.getElem_cons_succ]; omega

theorem nowF_snoc (s : ByteArray × ByteArray) (l : List Chg) (k : Nat) (h : k < l.length) : nowF s (l.take (k + 1)) = stepF (nowF s (l.take k)) l[k] := by
  unfold nowF
  rw [List.take_succ_eq_append_getElem h, List.foldl_append]; rfl

theorem bcell {W w1 : World} (hb : Below W.heap.size W w1) : (∀ b o, b < W.heap.size → w1.cell? ⟨b, o, none⟩ = W.cell? ⟨b, o, none⟩) ∧ (∀ b o, b < W.heap.size → w1.frozen? ⟨b, o, none⟩ = W.frozen? ⟨b, o, none⟩) :=
  ⟨fun b o h => hb.cell (p := ⟨b, o, none⟩) h, fun b o h => hb.frozen (p := ⟨b, o, none⟩) h⟩

theorem blk_new1 (w : World) (a b : Obj) : ((w.alloc a).alloc b).heap[w.heap.size + 1]? = some b := by
  have := blk_new (w.alloc a) b
  rwa [show (w.alloc a).heap.size = w.heap.size + 1 by simp] at this

set_option maxHeartbeats 400000 in
theorem now_some (b g n cap : Nat) (s0 s1 : ByteArray) (l : List Chg) (w : World) (hn : n = l.length) (hn2 : n ≤ 1000000000000)
    (hcell0 : ∀ k (h : k < l.length), w.cell? ⟨g, k * 3, none⟩ = some (.int .i64 l[k].side) ∧ w.cell? ⟨g, k * 3 + 1, none⟩ = some (.bool l[k].wipe) ∧ w.cell? ⟨g, k * 3 + 2, none⟩ = some (.string l[k].more))
    (hside : ∀ c ∈ l, 0 ≤ c.side ∧ c.side < 2) (hsz : s0.size + s1.size + mores l ≤ 1000000000000)
    (hbw : b < w.heap.size) (hgw : g < w.heap.size) (h0 : w.cell? ⟨b, 0, none⟩ = some (.string s0)) (h1 : w.cell? ⟨b, 1, none⟩ = some (.string s1)) (h2 : w.cell? ⟨b, 2, none⟩ = some (.slice (some ⟨g, 0, none⟩) n cap)) :
    Calls Try.prog 27 #[.pointer (some ⟨b, 0, none⟩)] w
      fun e w' => e = .returned (.agg #[.string (nowF (s0, s1) l).1, .string (nowF (s0, s1) l).2]) ∧ Below w.heap.size w w' := by
  have hcell := Lib.hid hcell0; clear hcell0
  have hnn := Lib.hid hn; clear hn
  go_enter Try.func27, Try.ntmps27
  go_wp2
  go_loopw [15] (fun i wr => ∃ k : Nat, k ≤ n ∧ i = .int .i64 k ∧ Below w.heap.size w wr ∧ w.heap.size + 1 < wr.heap.size ∧ wr.heap[w.heap.size]? = some (.cells #[.string ⟨#[]⟩, .string ⟨#[]⟩] 56 (0, 0)) ∧
      wr.heap[w.heap.size + 1]? = some (.cells #[.string (nowF (s0, s1) (l.take k)).1, .string (nowF (s0, s1) (l.take k)).2] 56 (0, 0))) (fun i _ => n - (intOf i).toNat)
  case atStart =>
    refine ⟨0, by omega, rfl, below2 _ _ _, by simp, ?_, ?_⟩
    · exact blk_alloc (blk_new _ _) _
    · exact blk_new1 _ _ _
  case round =>
    obtain ⟨k, hk, rfl, hb, hz, hB0, hB1⟩ := hrel
    by_cases hlt : k < n
    · have hkl : k < l.length := by rw [← hnn.out]; exact hlt
      obtain ⟨c0, c1, c2⟩ := hcell.out k hkl
      have hsd := hside l[k] (List.getElem_mem hkl)
      have hs1 := nowF_size (l.take k) (s0, s1)
      have hs2 := mores_take l k hkl
      have HS := Lib.hid (nowF_snoc (s0, s1) l k hkl)
      generalize l[k] = c at *
      obtain ⟨sd, wp, mr⟩ := c
      generalize nowF (s0, s1) (l.take k) = pq at *
      obtain ⟨p, q⟩ := pq
      have d0 := (hb.cell (p := ⟨g, k * 3, none⟩) hgw).trans c0
      have d1 := (hb.cell (p := ⟨g, k * 3 + 1, none⟩) hgw).trans c1
      have d2 := (hb.cell (p := ⟨g, k * 3 + 2, none⟩) hgw).trans c2
      have e0 := blk_cell hB1 0
      have e1 := blk_cell hB1 1
      have f0 := blk_frozen hB1 0
      have f1 := blk_frozen hB1 1
      clear c0 c1 c2
      go_wp2_with fail
      refine (with_any p q sd wp mr _ hsd.1 hsd.2 (by omega)).mono ?_
      rintro e w1 ⟨rfl, hb1⟩
      have hbw : Below wr.heap.size wr w1 := ((Below.refl _ _).alloc (Nat.le_refl _) _).trans (hb1.mono (by simp))
      clear hb1
      have B0 := blk_below hB0 hbw
      have B1 := blk_below hB1 hbw
      have e0 := blk_cell B1 0
      have e1 := blk_cell B1 1
      have f0 := blk_frozen B1 0
      have f1 := blk_frozen B1 1
      have hz1 : w.heap.size + 1 < w1.heap.size := Nat.lt_of_lt_of_le hz hbw.size
      have HB0 := Lib.hid B0
      have HB1 := Lib.hid B1
      clear B0 B1 hB0 hB1
      generalize hxy : withF p q sd wp mr = xy at *
      have HXY := Lib.hid hxy
      clear hxy
      obtain ⟨x, y⟩ := xy
      go_wp2
      go_roundw
      case rel =>
        refine ⟨k + 1, by omega, by go_num, ?_, by simpa using hz1, ?_, ?_⟩
        · exact ((hb.trans (hbw.mono (by omega))).setCell (by simp) _).setCell (by simp) _
        · exact blk_far (blk_far HB0.out (by simp) _) (by simp) _
        · rw [HS.out]
          have := blk_set (blk_set HB1.out 0 (.string x)) 1 (.string y)
          rw [this]
          simp only [stepF, HXY.out]
          rfl
      case measure => simp [intOf]; omega
    · obtain rfl : k = n := by omega
      have e0 := blk_cell hB1 0
      have e1 := blk_cell hB1 1
      have g0 := blk_cell hB0 0
      have g1 := blk_cell hB0 1
      have f0 := blk_frozen hB0 0
      have f1 := blk_frozen hB0 1
      have HB0 := Lib.hid hB0
      clear hB0 hB1 hcell
      go_wp2
      have e2 : l.take k = l := List.take_of_length_le (by have := hnn.out; omega)
      rw [e2]
      have HQ := blk_set (blk_set HB0.out 0 (.string (nowF (s0, s1) l).1)) 1 (.string (nowF (s0, s1) l).2)
      have q0 := blk_cell HQ 0
      have q1 := blk_cell HQ 1
      refine bodyPost_ret (v := .agg #[.string (nowF (s0, s1) l).1, .string (nowF (s0, s1) l).2]) (by simp [results, Try.results27, go_sem, q0, q1]) rfl ⟨rfl, (hb.setCell (by simp) _).setCell (by simp) _⟩
end Go.Proofs.Ytallocndghjoeaa
