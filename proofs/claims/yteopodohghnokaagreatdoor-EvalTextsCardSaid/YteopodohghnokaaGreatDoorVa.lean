/- A name's value among binds: the walks. -/
import Derived.Test.YteopodohghnokaaGreatDoorProg
import Derived.WalkKit
import Derived.LoopN
import Derived.Lib.Hide
import Derived.Below
namespace Go.Proofs.YteopodohghnokaaGreatDoor
open Go Go.Proofs Go.RowKit
set_option maxRecDepth 100000
set_option linter.unusedSimpArgs false
set_option linter.unusedVariables false
set_option maxHeartbeats 1000000

theorem cell_alloc {w : World} {a : Addr} {v : Value} (o : Obj) (h : w.cell? a = some v) : (w.alloc o).cell? a = some v :=
  (((Below.refl w.heap.size w).alloc (Nat.le_refl _) o).cell (World.block_lt_of_cell? w a h)).trans h
theorem cell_below {w w' : World} {a : Addr} {v : Value} (hb : Below w.heap.size w w') (h : w.cell? a = some v) : w'.cell? a = some v :=
  (hb.cell (World.block_lt_of_cell? w a h)).trans h
/-- A bind: a name, and what it is worth. -/
structure Bd where
  nm : ByteArray
  k : Int
  n : Int
  s : ByteArray
  A : Option Addr
  m : Nat
  c : Nat
def Bd.val (b : Bd) : Value := .agg #[.int .i64 b.k, .int .i64 b.n, .string b.s, .slice b.A b.m b.c]
def Bd.all (b : Bd) : Value := .agg #[.string b.nm, .int .i64 b.k, .int .i64 b.n, .string b.s, .slice b.A b.m b.c]
structure BdAt (w : World) (β p : Nat) (b : Bd) : Prop where
  c0 : w.cell? ⟨β, p, none⟩ = some (.string b.nm)
  c1 : w.cell? ⟨β, p + 1, none⟩ = some (.int .i64 b.k)
  c2 : w.cell? ⟨β, p + 2, none⟩ = some (.int .i64 b.n)
  c3 : w.cell? ⟨β, p + 3, none⟩ = some (.string b.s)
  c4 : w.cell? ⟨β, p + 4, none⟩ = some (.slice b.A b.m b.c)
theorem BdAt.below {w w' : World} {β p : Nat} {b : Bd} (h : BdAt w β p b) (hb : Below w.heap.size w w') : BdAt w' β p b :=
  ⟨cell_below hb h.c0, cell_below hb h.c1, cell_below hb h.c2, cell_below hb h.c3, cell_below hb h.c4⟩
def BdsAt (w : World) (β o : Nat) (l : List Bd) : Prop := ∀ i b, l[i]? = some b → BdAt w β (o + i * 5) b
theorem BdsAt.below {w w' : World} {β o : Nat} {l : List Bd} (h : BdsAt w β o l) (hb : Below w.heap.size w w') : BdsAt w' β o l := fun i b hi => (h i b hi).below hb
/-- The place of the first bind of a name. -/
def firstN (x : ByteArray) : List Bd → Nat → Int
  | [], _ => -1
  | b :: l, i => if b.nm.toList == x.toList then (i : Int) else firstN x l (i + 1)
theorem firstN_ok (x : ByteArray) : ∀ (l : List Bd) (j : Nat), (firstN x l j = -1 ∧ l.find? (fun b => b.nm.toList == x.toList) = none) ∨ ∃ i b, firstN x l j = ((j + i : Nat) : Int) ∧ l[i]? = some b ∧ l.find? (fun b => b.nm.toList == x.toList) = some b
  | [], j => .inl ⟨rfl, rfl⟩
  | b :: l, j => by
    simp only [firstN, List.find?_cons]
    cases hb : b.nm.toList == x.toList with
    | true => exact .inr ⟨0, b, by simp, by simp, by simp⟩
    | false =>
      simp only [Bool.false_eq_true, if_false]
      rcases firstN_ok x l (j + 1) with h | ⟨i, b', h1, h2, h3⟩
      · exact .inl h
      · exact .inr ⟨i + 1, b', by rw [h1]; congr 1; omega, by simpa using h2, h3⟩

theorem is_any (b : Bd) (x : ByteArray) (P : Nat) (w : World) (hp : w.cell? ⟨P, 0, none⟩ = some (.string x)) :
    Calls Tryz.prog 83 #[b.all, .pointer (some ⟨P, 0, none⟩)] w fun e w' => e = .returned (.bool (b.nm.toList == x.toList)) ∧ Below w.heap.size w w' := by
  obtain ⟨nm, k, n, s, A, m, c⟩ := b
  have hp2 := cell_alloc (.cells #[.string nm, .int .i64 k, .int .i64 n, .string s, .slice A m c] 43) hp
  unfold Bd.all
  go_enter Tryz.func83, Tryz.ntmps83
  go_wp2_with fail
  go_ret
  exact ⟨rfl, (Below.refl _ _).alloc (Nat.le_refl _) _⟩

theorem index_any (l : List Bd) (x : ByteArray) (β o cap P : Nat) (w : World) (hp : w.cell? ⟨P, 0, none⟩ = some (.string x)) (hl : BdsAt w β o l) (hn : l.length ≤ 1000) :
    Calls Tryz.prog 82 #[.slice (some ⟨β, o, none⟩) l.length cap, .func (.func 83) #[] #[.pointer (some ⟨P, 0, none⟩)]] w fun e w' => e = .returned (.int .i64 (firstN x l 0)) ∧ Below w.heap.size w w' := by
  have HL := Lib.hid hl
  have HP := Lib.hid hp
  clear hl hp
  go_enter Tryz.func82, Tryz.ntmps82
  go_wp2_with fail
  go_loopw [8] (fun iv wr => ∃ i : Nat, i ≤ l.length ∧ iv = .int .i64 i ∧ firstN x (l.drop i) i = firstN x l 0 ∧ Below w.heap.size w wr) (fun iv _ => l.length - (intOf iv).toNat)
  case atStart => exact ⟨0, by omega, rfl, rfl, Below.refl _ _⟩
  case round =>
    obtain ⟨i, hi, rfl, hF, hb⟩ := hrel
    have HF := Lib.hid hF
    clear hF
    by_cases hlt : i < l.length
    · obtain ⟨b, hbi⟩ : ∃ b, l[i]? = some b := ⟨l[i], List.getElem?_eq_getElem hlt⟩
      have hd : l.drop i = b :: l.drop (i + 1) := by
        rw [List.drop_eq_getElem_cons hlt]
        congr 1
        exact Option.some.inj ((List.getElem?_eq_getElem hlt).symm.trans hbi)
      obtain ⟨q0, q1, q2, q3, q4⟩ := (HL.out i b hbi).below hb
      have hp1 := cell_below hb HP.out
      have HD := Lib.hid (show firstN x (b :: l.drop (i + 1)) i = firstN x l 0 by rw [← hd]; exact HF.out)
      clear hd hbi
      obtain ⟨nm, k, n, s, A, m, c⟩ := b
      simp only at q0 q1 q2 q3 q4
      have HI := is_any ⟨nm, k, n, s, A, m, c⟩ x P wr hp1
      unfold Bd.all at HI
      simp only at HI
      go_wp2_with fail
      refine HI.mono ?_
      clear HI
      rintro e w2 ⟨rfl, hb2⟩
      have hbb := hb.trans (hb2.mono hb.size)
      obtain ⟨t, ht⟩ : ∃ t, (nm.toList == x.toList) = t := ⟨_, rfl⟩
      rw [ht]
      have HD2 := HD.out
      simp only [firstN, ht] at HD2
      have HD3 := Lib.hid HD2
      clear HD2 ht
      cases t
      · go_wp2_with fail
        go_roundw
        case rel => exact ⟨i + 1, by omega, by go_num, HD3.out, hbb⟩
        case measure => simp [intOf]; omega
      · go_wp2_with fail
        go_ret
        exact ⟨by have := HD3.out; rw [← this]; rfl, hbb⟩
    · obtain rfl : i = l.length := by omega
      go_wp2_with fail
      go_ret
      exact ⟨by have := HF.out; rw [List.drop_length] at this; rw [← this]; rfl, hb⟩

theorem bk_lt {w : World} {g : Nat} {o : Obj} (h : w.heap[g]? = some o) : g < w.heap.size := (Array.getElem?_eq_some_iff.1 h).1
theorem bk_cell {w : World} {g : Nat} {t : TypeId} {cs : Array Value} (h : w.heap[g]? = some (.cells cs t (0, 0))) (i : Nat) : w.cell? ⟨g, i, none⟩ = cs[i]? := cell_of_row w g i cs t (0, 0) h
theorem bk_frozen {w : World} {g : Nat} {t : TypeId} {cs : Array Value} (h : w.heap[g]? = some (.cells cs t (0, 0))) (i : Nat) : w.frozen? ⟨g, i, none⟩ = false := by simp [World.frozen?, h]
theorem bk_alloc {w : World} {g : Nat} {o : Obj} (h : w.heap[g]? = some o) (o' : Obj) : (w.alloc o').heap[g]? = some o := (Below.heap_alloc w o' g (bk_lt h)).trans h
theorem bk_below {w w1 : World} {g : Nat} {o : Obj} (h : w.heap[g]? = some o) (hb : Below w.heap.size w w1) : w1.heap[g]? = some o := (hb.block g (bk_lt h)).trans h
theorem bk_new (w : World) (o : Obj) : (w.alloc o).heap[w.heap.size]? = some o := heap_alloc_new w o

/-- What a name is worth. -/
def worth (x : ByteArray) (l : List Bd) : Value := match l.find? (fun b => b.nm.toList == x.toList) with
  | some b => .tuple #[b.val, .int .i64 0]
  | none => .tuple #[.agg #[.int .i64 0, .int .i64 0, .string ⟨#[]⟩, .slice none 0 0], .int .i64 2]
theorem value_any (l : List Bd) (x : ByteArray) (β o cap : Nat) (w : World) (hl : BdsAt w β o l) (hn : l.length ≤ 1000) :
    Calls Tryz.prog 42 #[.agg #[.slice (some ⟨β, o, none⟩) l.length cap], .string x] w fun e w' => e = .returned (worth x l) ∧ Below w.heap.size w w' := by
  obtain ⟨W, hW⟩ : ∃ W, W = ((w.alloc (Obj.cells #[Value.slice (some ⟨β, o, none⟩) l.length cap] 68)).alloc (Obj.cells #[Value.string x] 9)).alloc (Obj.cells #[Value.int IntKind.i64 0, Value.int IntKind.i64 0, Value.string ⟨#[]⟩, Value.slice none 0 0] 33) := ⟨_, rfl⟩
  have hb : Below w.heap.size w W := by rw [hW]; exact (((Below.refl w.heap.size w).alloc (Nat.le_refl _) _).alloc (by simp) _).alloc (by simp; omega) _
  have k1 : W.heap[w.heap.size]? = some (.cells #[Value.slice (some ⟨β, o, none⟩) l.length cap] 68) := by rw [hW]; exact bk_alloc (bk_alloc (bk_new _ _) _) _
  have k2 : W.heap[w.heap.size + 1]? = some (.cells #[Value.string x] 9) := by rw [hW]; have := bk_new (w.alloc (Obj.cells #[Value.slice (some ⟨β, o, none⟩) l.length cap] 68)) (.cells #[Value.string x] 9); rw [World.size_alloc] at this; exact bk_alloc this _
  have k3 : W.heap[w.heap.size + 1 + 1]? = some (.cells #[Value.int IntKind.i64 0, Value.int IntKind.i64 0, Value.string ⟨#[]⟩, Value.slice none 0 0] 33) := by
    rw [hW]; have := bk_new ((w.alloc (Obj.cells #[Value.slice (some ⟨β, o, none⟩) l.length cap] 68)).alloc (.cells #[Value.string x] 9)) (Obj.cells #[Value.int IntKind.i64 0, Value.int IntKind.i64 0, Value.string ⟨#[]⟩, Value.slice none 0 0] 33); rw [World.size_alloc, World.size_alloc] at this; exact this
  have HI := Lib.hid (index_any l x β o cap (w.heap.size + 1) W ((bk_cell k2 0).trans rfl) (hl.below hb) hn)
  have HL := Lib.hid (hl.below hb)
  have HB := Lib.hid hb
  have HS := Lib.hid hb.size
  clear hl k2 hb
  go_enter Tryz.func42, Tryz.ntmps42
  go_wp2_with fail
  rw [← hW]
  refine HI.out.mono ?_
  clear HI hW
  rintro e w2 ⟨rfl, hb2⟩
  have g1 := bk_below k1 hb2
  have g3 := bk_below k3 hb2
  have hbb := HB.out.trans (hb2.mono HB.out.size)
  have HL2 := Lib.hid (HL.out.below hb2)
  clear k1 k3 hb2
  have c1 : w2.cell? ⟨w.heap.size, 0, none⟩ = some (.slice (some ⟨β, o, none⟩) l.length cap) := (bk_cell g1 0).trans rfl
  have d0 : w2.cell? ⟨w.heap.size + 1 + 1, 0, none⟩ = some (.int .i64 0) := (bk_cell g3 0).trans rfl
  have d1 : w2.cell? ⟨w.heap.size + 1 + 1, 1, none⟩ = some (.int .i64 0) := (bk_cell g3 1).trans rfl
  have d2 : w2.cell? ⟨w.heap.size + 1 + 1, 2, none⟩ = some (.string ⟨#[]⟩) := (bk_cell g3 2).trans rfl
  have d3 : w2.cell? ⟨w.heap.size + 1 + 1, 3, none⟩ = some (.slice none 0 0) := (bk_cell g3 3).trans rfl
  have f0 : w2.frozen? ⟨w.heap.size + 1 + 1, 0, none⟩ = false := bk_frozen g3 0
  have f1 : w2.frozen? ⟨w.heap.size + 1 + 1, 1, none⟩ = false := bk_frozen g3 1
  have f2 : w2.frozen? ⟨w.heap.size + 1 + 1, 2, none⟩ = false := bk_frozen g3 2
  have f3 : w2.frozen? ⟨w.heap.size + 1 + 1, 3, none⟩ = false := bk_frozen g3 3
  rcases firstN_ok x l 0 with ⟨h1, h2⟩ | ⟨i, b, h1, h2, h3⟩
  · rw [h1]
    have HW := Lib.hid (show worth x l = .tuple #[.agg #[.int .i64 0, .int .i64 0, .string ⟨#[]⟩, .slice none 0 0], .int .i64 2] by unfold worth; rw [h2])
    clear h1 h2 g1 g3
    go_wp2_with fail
    refine bodyPost_ret (v := .tuple #[.agg #[.int .i64 0, .int .i64 0, .string ⟨#[]⟩, .slice none 0 0], .int .i64 2]) (by simp [results, Tryz.results42, go_sem, d0, d1, d2, d3]) rfl ⟨congrArg Ending.returned HW.out.symm, (((hbb.setCell (p := ⟨w.heap.size + 1 + 1, 0, none⟩) (by simp only; omega) _).setCell (p := ⟨w.heap.size + 1 + 1, 1, none⟩) (by simp only; omega) _).setCell (p := ⟨w.heap.size + 1 + 1, 2, none⟩) (by simp only; omega) _).setCell (p := ⟨w.heap.size + 1 + 1, 3, none⟩) (by simp only; omega) _⟩
  · rw [Nat.zero_add] at h1
    rw [h1]
    have HW := Lib.hid (show worth x l = .tuple #[b.val, .int .i64 0] by unfold worth; rw [h3])
    obtain ⟨q0, q1, q2, q3, q4⟩ := HL2.out i b h2
    obtain ⟨nm, k, n, s, A, m, c⟩ := b
    have hi : i < l.length := (List.getElem?_eq_some_iff.1 h2).1
    simp only at q0 q1 q2 q3 q4
    clear h1 h2 h3 g1 g3
    go_wp2_with fail
    refine bodyPost_ret (v := .tuple #[.agg #[.int .i64 k, .int .i64 n, .string s, .slice A m c], .int .i64 0]) (by simp [results, Tryz.results42, go_sem, d0, d1, d2, d3]) rfl ⟨congrArg Ending.returned HW.out.symm, (((hbb.setCell (p := ⟨w.heap.size + 1 + 1, 0, none⟩) (by simp only; omega) _).setCell (p := ⟨w.heap.size + 1 + 1, 1, none⟩) (by simp only; omega) _).setCell (p := ⟨w.heap.size + 1 + 1, 2, none⟩) (by simp only; omega) _).setCell (p := ⟨w.heap.size + 1 + 1, 3, none⟩) (by simp only; omega) _⟩
end Go.Proofs.YteopodohghnokaaGreatDoor
