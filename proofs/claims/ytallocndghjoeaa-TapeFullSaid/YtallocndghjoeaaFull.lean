/- Both sides together have at most the room; what does not fit changes nothing; wiped there is room again: the walk of the statement. -/
import Derived.Test.YtallocndghjoeaaTn
import Derived.OpenShut
namespace Go.Proofs.Ytallocndghjoeaa
open Go.RowKit Go.Proofs.YtallocndghjoeaaW.PrintWords
set_option linter.unusedVariables false
set_option linter.unusedSimpArgs false

theorem with0 (m : ByteArray) : withF ⟨#[]⟩ ⟨#[]⟩ 0 false m = (m, ⟨#[]⟩) := by simp [withF, empty_app]
theorem with1 (s m : ByteArray) : withF s ⟨#[]⟩ 1 false m = (s, m) := by simp [withF, empty_app]
theorem wipe0 (s m : ByteArray) : withF s m 0 true ⟨#[]⟩ = (⟨#[]⟩, m) := by simp [withF]
theorem wipe1 (s m : ByteArray) : withF s m 1 true ⟨#[]⟩ = (s, ⟨#[]⟩) := by simp [withF]
theorem e_size : (⟨#[]⟩ : ByteArray).size = 0 := rfl

set_option maxRecDepth 100000 in
set_option maxHeartbeats 3200000 in
theorem full_1 (r : Int) (x y : Nat) (a c : Int) (hx : (x : Int) = a % 200) (hy : (y : Int) = c % 200) (hr0 : 0 ≤ r) (hr1 : r ≤ 255) (ha0 : 0 ≤ a) (ha1 : a ≤ 255) (hc0 : 0 ≤ c) (hc1 : c ≤ 255) (hxl : x ≤ 199) (hyl : y ≤ 199) (hf : (x : Int) ≤ r) (hs : (x : Int) + y ≤ r) (w : World) :
    Calls Try.prog 3 #[.int .u8 r, .int .u8 a, .int .u8 c] w fun e w' => e = .returned (.bool true) ∧ Below w.heap.size w w' := by
  have sx := xs_size x
  have sy := xs_size y
  have HX := Lib.hid hx
  have HY := Lib.hid hy
  have SX := Lib.hid sx
  have SY := Lib.hid sy
  clear hx hy sx sy
  go_enter Try.func3, Try.ntmps3
  go_wp2_with fail
  rw [← HX.out, ← HY.out]
  refine (new_any r 0 0 0 _).mono ?_
  rintro e w1 ⟨b, rfl, hT1, hb1⟩
  have hG1 := good_new r 0 0 0 (by decide)
  generalize newSt r 0 0 0 = st1 at *
  go_wp2_with fail
  refine (text_any x (by omega) _).mono ?_
  rintro e w' ⟨rfl, rfl⟩
  go_wp2_with fail
  refine (add1_ok w.heap.size b _ st1 r _ 0 0 0 (xs x) _ hT1 hG1 (by decide) (by decide) (by rw [with0]; have h := SX.out; first | omega | (simp only [e_size]; omega)) (by have h := SX.out; omega) (by decide) hb1.size).mono ?_
  rintro e w2 ⟨rfl, st2, row2, hT2, hG2, hq⟩
  rw [with0] at hG2
  have hb2 := hb1.trans hq
  clear hT1 hG1 hb1 hq
  go_wp2_with fail
  refine (text_any y (by omega) _).mono ?_
  rintro e w' ⟨rfl, rfl⟩
  go_wp2_with fail
  refine (add1_ok w.heap.size b _ st2 r _ (0 + (xs x).size) (0 + 1) 1 (xs y) _ hT2 hG2 (by decide) (by decide) (by rw [with1]; have h := SX.out; have h2 := SY.out; first | omega | (simp only [e_size]; omega)) (by have h := SX.out; have h2 := SY.out; omega) (by decide) hb2.size).mono ?_
  rintro e w3 ⟨rfl, st3, row3, hT3, hG3, hq⟩
  rw [with1] at hG3
  have hb3 := hb2.trans hq
  clear hT2 hG2 hb2 hq
  go_wp2_with fail
  have hB3 : ((0 + (xs x).size) + (xs y).size) ≤ 1000000 := by have h := SX.out; have h2 := SY.out; omega
  refine (side_good w.heap.size b _ st3 r _ ((0 + (xs x).size) + (xs y).size) ((0 + 1) + 1) 0 _ hT3 hG3 (by decide) (by decide) (by omega) (by decide) hb3.size).mono ?_
  rintro e w4 ⟨rfl, hT4, hq⟩
  have hb4 := hb3.trans hq
  clear hT3 hb3 hq
  rw [if_pos rfl]
  go_wp2_with (first | (go_at_call 12; refine (num_any _ _).mono ?_; rintro e w' ⟨rfl, rfl⟩) | (go_at_call 10; refine (text_any x (by omega) _).mono ?_; rintro e w' ⟨rfl, rfl⟩))
  refine (wipe_good w.heap.size b _ st3 r _ ((0 + (xs x).size) + (xs y).size) ((0 + 1) + 1) 0 _ hT4 hG3 (by decide) (by decide) (by omega) (by decide) hb4.size).mono ?_
  rintro e w5 ⟨rfl, st5, row5, hT5, hG5, hq⟩
  rw [wipe0] at hG5
  have hb5 := hb4.trans hq
  clear hT4 hG3 hb4 hq
  go_wp2_with fail
  refine (wipe_good w.heap.size b _ st5 r _ ((0 + (xs x).size) + (xs y).size) (((0 + 1) + 1) + 1) 1 _ hT5 hG5 (by decide) (by decide) (by omega) (by decide) hb5.size).mono ?_
  rintro e w6 ⟨rfl, st6, row6, hT6, hG6, hq⟩
  rw [wipe1] at hG6
  have hb6 := hb5.trans hq
  clear hT5 hG5 hb5 hq
  go_wp2_with fail
  refine (text_any x (by omega) _).mono ?_
  rintro e w' ⟨rfl, rfl⟩
  go_wp2_with fail
  refine (add1_ok w.heap.size b _ st6 r _ ((0 + (xs x).size) + (xs y).size) (((0 + 1) + 1) + 1 + 1) 1 (xs x) _ hT6 hG6 (by decide) (by decide) (by rw [with1]; have h := SX.out; first | omega | (simp only [e_size]; omega)) (by have h := SX.out; omega) (by decide) hb6.size).mono ?_
  rintro e w7 ⟨rfl, st7, row7, hT7, hG7, hq⟩
  have hb7 := hb6.trans hq
  clear hT6 hG6 hb6 hq
  go_wp2_with (first | (go_at_call 12; refine (num_any _ _).mono ?_; rintro e w' ⟨rfl, rfl⟩))
  refine (awake_any _).mono ?_
  rintro e w8 ⟨rfl, hb8⟩
  have hbb := hb7.trans (hb8.mono hb7.size)
  go_wp2
  go_ret
  exact ⟨rfl, hbb⟩

set_option maxRecDepth 100000 in
set_option maxHeartbeats 3200000 in
theorem full_2 (r : Int) (x y : Nat) (a c : Int) (hx : (x : Int) = a % 200) (hy : (y : Int) = c % 200) (hr0 : 0 ≤ r) (hr1 : r ≤ 255) (ha0 : 0 ≤ a) (ha1 : a ≤ 255) (hc0 : 0 ≤ c) (hc1 : c ≤ 255) (hxl : x ≤ 199) (hyl : y ≤ 199) (hf : (x : Int) ≤ r) (hs : ¬ (x : Int) + y ≤ r) (w : World) :
    Calls Try.prog 3 #[.int .u8 r, .int .u8 a, .int .u8 c] w fun e w' => e = .returned (.bool true) ∧ Below w.heap.size w w' := by
  have sx := xs_size x
  have sy := xs_size y
  have HX := Lib.hid hx
  have HY := Lib.hid hy
  have SX := Lib.hid sx
  have SY := Lib.hid sy
  clear hx hy sx sy
  go_enter Try.func3, Try.ntmps3
  go_wp2_with fail
  rw [← HX.out, ← HY.out]
  refine (new_any r 0 0 0 _).mono ?_
  rintro e w1 ⟨b, rfl, hT1, hb1⟩
  have hG1 := good_new r 0 0 0 (by decide)
  generalize newSt r 0 0 0 = st1 at *
  go_wp2_with fail
  refine (text_any x (by omega) _).mono ?_
  rintro e w' ⟨rfl, rfl⟩
  go_wp2_with fail
  refine (add1_ok w.heap.size b _ st1 r _ 0 0 0 (xs x) _ hT1 hG1 (by decide) (by decide) (by rw [with0]; have h := SX.out; first | omega | (simp only [e_size]; omega)) (by have h := SX.out; omega) (by decide) hb1.size).mono ?_
  rintro e w2 ⟨rfl, st2, row2, hT2, hG2, hq⟩
  rw [with0] at hG2
  have hb2 := hb1.trans hq
  clear hT1 hG1 hb1 hq
  go_wp2_with fail
  refine (text_any y (by omega) _).mono ?_
  rintro e w' ⟨rfl, rfl⟩
  go_wp2_with fail
  refine (add1_full w.heap.size b _ st2 r _ (0 + (xs x).size) (0 + 1) 1 (xs y) _ hT2 hG2 (by decide) (by decide) (by rw [with1]; have h := SX.out; have h2 := SY.out; first | omega | (simp only [e_size]; omega)) (by have h := SX.out; have h2 := SY.out; omega) (by decide) hb2.size).mono ?_
  rintro e w3 ⟨rfl, row3, hT3, hq⟩
  have hG3 := hG2
  have hb3 := hb2.trans hq
  clear hT2 hG2 hb2 hq
  go_wp2_with fail
  have hB3 : (0 + (xs x).size) ≤ 1000000 := by have h := SX.out; have h2 := SY.out; omega
  refine (side_good w.heap.size b _ st2 r _ (0 + (xs x).size) (0 + 1) 0 _ hT3 hG3 (by decide) (by decide) (by omega) (by decide) hb3.size).mono ?_
  rintro e w4 ⟨rfl, hT4, hq⟩
  have hb4 := hb3.trans hq
  clear hT3 hb3 hq
  rw [if_pos rfl]
  go_wp2_with (first | (go_at_call 12; refine (num_any _ _).mono ?_; rintro e w' ⟨rfl, rfl⟩) | (go_at_call 10; refine (text_any x (by omega) _).mono ?_; rintro e w' ⟨rfl, rfl⟩))
  refine (wipe_good w.heap.size b _ st2 r _ (0 + (xs x).size) (0 + 1) 0 _ hT4 hG3 (by decide) (by decide) (by omega) (by decide) hb4.size).mono ?_
  rintro e w5 ⟨rfl, st5, row5, hT5, hG5, hq⟩
  rw [wipe0] at hG5
  have hb5 := hb4.trans hq
  clear hT4 hG3 hb4 hq
  go_wp2_with fail
  refine (wipe_good w.heap.size b _ st5 r _ (0 + (xs x).size) ((0 + 1) + 1) 1 _ hT5 hG5 (by decide) (by decide) (by omega) (by decide) hb5.size).mono ?_
  rintro e w6 ⟨rfl, st6, row6, hT6, hG6, hq⟩
  rw [wipe1] at hG6
  have hb6 := hb5.trans hq
  clear hT5 hG5 hb5 hq
  go_wp2_with fail
  refine (text_any x (by omega) _).mono ?_
  rintro e w' ⟨rfl, rfl⟩
  go_wp2_with fail
  refine (add1_ok w.heap.size b _ st6 r _ (0 + (xs x).size) ((0 + 1) + 1 + 1) 1 (xs x) _ hT6 hG6 (by decide) (by decide) (by rw [with1]; have h := SX.out; first | omega | (simp only [e_size]; omega)) (by have h := SX.out; omega) (by decide) hb6.size).mono ?_
  rintro e w7 ⟨rfl, st7, row7, hT7, hG7, hq⟩
  have hb7 := hb6.trans hq
  clear hT6 hG6 hb6 hq
  go_wp2_with (first | (go_at_call 12; refine (num_any _ _).mono ?_; rintro e w' ⟨rfl, rfl⟩))
  refine (awake_any _).mono ?_
  rintro e w8 ⟨rfl, hb8⟩
  have hbb := hb7.trans (hb8.mono hb7.size)
  go_wp2
  go_ret
  exact ⟨rfl, hbb⟩

set_option maxRecDepth 100000 in
set_option maxHeartbeats 3200000 in
theorem full_3 (r : Int) (x y : Nat) (a c : Int) (hx : (x : Int) = a % 200) (hy : (y : Int) = c % 200) (hr0 : 0 ≤ r) (hr1 : r ≤ 255) (ha0 : 0 ≤ a) (ha1 : a ≤ 255) (hc0 : 0 ≤ c) (hc1 : c ≤ 255) (hxl : x ≤ 199) (hyl : y ≤ 199) (hf : ¬ (x : Int) ≤ r) (hxe : (xs x).toList.isEmpty = false) (hxe2 : ¬ (xs x).toList = []) (hxe3 : ¬ [] = (xs x).toList) (hx0 : ((x : Int) == 0) = false) (hs : (y : Int) ≤ r) (w : World) :
    Calls Try.prog 3 #[.int .u8 r, .int .u8 a, .int .u8 c] w fun e w' => e = .returned (.bool true) ∧ Below w.heap.size w w' := by
  have sx := xs_size x
  have sy := xs_size y
  have HX := Lib.hid hx
  have HY := Lib.hid hy
  have SX := Lib.hid sx
  have SY := Lib.hid sy
  clear hx hy sx sy
  go_enter Try.func3, Try.ntmps3
  go_wp2_with fail
  rw [← HX.out, ← HY.out]
  refine (new_any r 0 0 0 _).mono ?_
  rintro e w1 ⟨b, rfl, hT1, hb1⟩
  have hG1 := good_new r 0 0 0 (by decide)
  generalize newSt r 0 0 0 = st1 at *
  go_wp2_with fail
  refine (text_any x (by omega) _).mono ?_
  rintro e w' ⟨rfl, rfl⟩
  go_wp2_with fail
  refine (add1_full w.heap.size b _ st1 r _ 0 0 0 (xs x) _ hT1 hG1 (by decide) (by decide) (by rw [with0]; have h := SX.out; first | omega | (simp only [e_size]; omega)) (by have h := SX.out; omega) (by decide) hb1.size).mono ?_
  rintro e w2 ⟨rfl, row2, hT2, hq⟩
  have hG2 := hG1
  have hb2 := hb1.trans hq
  clear hT1 hG1 hb1 hq
  go_wp2_with fail
  refine (text_any y (by omega) _).mono ?_
  rintro e w' ⟨rfl, rfl⟩
  go_wp2_with fail
  refine (add1_ok w.heap.size b _ st1 r _ 0 0 1 (xs y) _ hT2 hG2 (by decide) (by decide) (by rw [with1]; have h := SX.out; have h2 := SY.out; first | omega | (simp only [e_size]; omega)) (by have h := SX.out; have h2 := SY.out; omega) (by decide) hb2.size).mono ?_
  rintro e w3 ⟨rfl, st3, row3, hT3, hG3, hq⟩
  rw [with1] at hG3
  have hb3 := hb2.trans hq
  clear hT2 hG2 hb2 hq
  go_wp2_with fail
  have hB3 : (0 + (xs y).size) ≤ 1000000 := by have h := SX.out; have h2 := SY.out; omega
  refine (side_good w.heap.size b _ st3 r _ (0 + (xs y).size) (0 + 1) 0 _ hT3 hG3 (by decide) (by decide) (by omega) (by decide) hb3.size).mono ?_
  rintro e w4 ⟨rfl, hT4, hq⟩
  have hb4 := hb3.trans hq
  clear hT3 hb3 hq
  rw [if_pos rfl]
  go_wp2_with (first | (go_at_call 12; refine (num_any _ _).mono ?_; rintro e w' ⟨rfl, rfl⟩) | (go_at_call 10; refine (text_any x (by omega) _).mono ?_; rintro e w' ⟨rfl, rfl⟩))
  refine (wipe_good w.heap.size b _ st3 r _ (0 + (xs y).size) (0 + 1) 0 _ hT4 hG3 (by decide) (by decide) (by omega) (by decide) hb4.size).mono ?_
  rintro e w5 ⟨rfl, st5, row5, hT5, hG5, hq⟩
  rw [wipe0] at hG5
  have hb5 := hb4.trans hq
  clear hT4 hG3 hb4 hq
  go_wp2_with fail
  refine (wipe_good w.heap.size b _ st5 r _ (0 + (xs y).size) ((0 + 1) + 1) 1 _ hT5 hG5 (by decide) (by decide) (by omega) (by decide) hb5.size).mono ?_
  rintro e w6 ⟨rfl, st6, row6, hT6, hG6, hq⟩
  rw [wipe1] at hG6
  have hb6 := hb5.trans hq
  clear hT5 hG5 hb5 hq
  go_wp2_with fail
  refine (text_any x (by omega) _).mono ?_
  rintro e w' ⟨rfl, rfl⟩
  go_wp2_with fail
  refine (add1_full w.heap.size b _ st6 r _ (0 + (xs y).size) ((0 + 1) + 1 + 1) 1 (xs x) _ hT6 hG6 (by decide) (by decide) (by rw [with1]; have h := SX.out; first | omega | (simp only [e_size]; omega)) (by have h := SX.out; omega) (by decide) hb6.size).mono ?_
  rintro e w7 ⟨rfl, row7, hT7, hq⟩
  have hb7 := hb6.trans hq
  clear hT6 hG6 hb6 hq
  go_wp2_with (first | (go_at_call 12; refine (num_any _ _).mono ?_; rintro e w' ⟨rfl, rfl⟩))
  refine (awake_any _).mono ?_
  rintro e w8 ⟨rfl, hb8⟩
  have hbb := hb7.trans (hb8.mono hb7.size)
  go_wp2
  go_ret
  exact ⟨rfl, hbb⟩

set_option maxRecDepth 100000 in
set_option maxHeartbeats 3200000 in
theorem full_4 (r : Int) (x y : Nat) (a c : Int) (hx : (x : Int) = a % 200) (hy : (y : Int) = c % 200) (hr0 : 0 ≤ r) (hr1 : r ≤ 255) (ha0 : 0 ≤ a) (ha1 : a ≤ 255) (hc0 : 0 ≤ c) (hc1 : c ≤ 255) (hxl : x ≤ 199) (hyl : y ≤ 199) (hf : ¬ (x : Int) ≤ r) (hxe : (xs x).toList.isEmpty = false) (hxe2 : ¬ (xs x).toList = []) (hxe3 : ¬ [] = (xs x).toList) (hx0 : ((x : Int) == 0) = false) (hs : ¬ (y : Int) ≤ r) (w : World) :
    Calls Try.prog 3 #[.int .u8 r, .int .u8 a, .int .u8 c] w fun e w' => e = .returned (.bool true) ∧ Below w.heap.size w w' := by
  have sx := xs_size x
  have sy := xs_size y
  have HX := Lib.hid hx
  have HY := Lib.hid hy
  have SX := Lib.hid sx
  have SY := Lib.hid sy
  clear hx hy sx sy
  go_enter Try.func3, Try.ntmps3
  go_wp2_with fail
  rw [← HX.out, ← HY.out]
  refine (new_any r 0 0 0 _).mono ?_
  rintro e w1 ⟨b, rfl, hT1, hb1⟩
  have hG1 := good_new r 0 0 0 (by decide)
  generalize newSt r 0 0 0 = st1 at *
  go_wp2_with fail
  refine (text_any x (by omega) _).mono ?_
  rintro e w' ⟨rfl, rfl⟩
  go_wp2_with fail
  refine (add1_full w.heap.size b _ st1 r _ 0 0 0 (xs x) _ hT1 hG1 (by decide) (by decide) (by rw [with0]; have h := SX.out; first | omega | (simp only [e_size]; omega)) (by have h := SX.out; omega) (by decide) hb1.size).mono ?_
  rintro e w2 ⟨rfl, row2, hT2, hq⟩
  have hG2 := hG1
  have hb2 := hb1.trans hq
  clear hT1 hG1 hb1 hq
  go_wp2_with fail
  refine (text_any y (by omega) _).mono ?_
  rintro e w' ⟨rfl, rfl⟩
  go_wp2_with fail
  refine (add1_full w.heap.size b _ st1 r _ 0 0 1 (xs y) _ hT2 hG2 (by decide) (by decide) (by rw [with1]; have h := SX.out; have h2 := SY.out; first | omega | (simp only [e_size]; omega)) (by have h := SX.out; have h2 := SY.out; omega) (by decide) hb2.size).mono ?_
  rintro e w3 ⟨rfl, row3, hT3, hq⟩
  have hG3 := hG2
  have hb3 := hb2.trans hq
  clear hT2 hG2 hb2 hq
  go_wp2_with fail
  have hB3 : 0 ≤ 1000000 := by have h := SX.out; have h2 := SY.out; omega
  refine (side_good w.heap.size b _ st1 r _ 0 0 0 _ hT3 hG3 (by decide) (by decide) (by omega) (by decide) hb3.size).mono ?_
  rintro e w4 ⟨rfl, hT4, hq⟩
  have hb4 := hb3.trans hq
  clear hT3 hb3 hq
  rw [if_pos rfl]
  go_wp2_with (first | (go_at_call 12; refine (num_any _ _).mono ?_; rintro e w' ⟨rfl, rfl⟩) | (go_at_call 10; refine (text_any x (by omega) _).mono ?_; rintro e w' ⟨rfl, rfl⟩))
  refine (wipe_good w.heap.size b _ st1 r _ 0 0 0 _ hT4 hG3 (by decide) (by decide) (by omega) (by decide) hb4.size).mono ?_
  rintro e w5 ⟨rfl, st5, row5, hT5, hG5, hq⟩
  rw [wipe0] at hG5
  have hb5 := hb4.trans hq
  clear hT4 hG3 hb4 hq
  go_wp2_with fail
  refine (wipe_good w.heap.size b _ st5 r _ 0 (0 + 1) 1 _ hT5 hG5 (by decide) (by decide) (by omega) (by decide) hb5.size).mono ?_
  rintro e w6 ⟨rfl, st6, row6, hT6, hG6, hq⟩
  rw [wipe1] at hG6
  have hb6 := hb5.trans hq
  clear hT5 hG5 hb5 hq
  go_wp2_with fail
  refine (text_any x (by omega) _).mono ?_
  rintro e w' ⟨rfl, rfl⟩
  go_wp2_with fail
  refine (add1_full w.heap.size b _ st6 r _ 0 (0 + 1 + 1) 1 (xs x) _ hT6 hG6 (by decide) (by decide) (by rw [with1]; have h := SX.out; first | omega | (simp only [e_size]; omega)) (by have h := SX.out; omega) (by decide) hb6.size).mono ?_
  rintro e w7 ⟨rfl, row7, hT7, hq⟩
  have hb7 := hb6.trans hq
  clear hT6 hG6 hb6 hq
  go_wp2_with (first | (go_at_call 12; refine (num_any _ _).mono ?_; rintro e w' ⟨rfl, rfl⟩))
  refine (awake_any _).mono ?_
  rintro e w8 ⟨rfl, hb8⟩
  have hbb := hb7.trans (hb8.mono hb7.size)
  go_wp2
  go_ret
  exact ⟨rfl, hbb⟩

theorem law_full (r : Int) (wr : (Lit.int .u8 r).wf = true) (a : Int) (wa : (Lit.int .u8 a).wf = true) (c : Int) (wc : (Lit.int .u8 c).wf = true) (w : World) :
    Calls Try.prog 3 #[.int .u8 r, .int .u8 a, .int .u8 c] w fun e w' => e = .returned (.bool true) ∧ Below w.heap.size w w' := by
  obtain ⟨br0, br1⟩ := bounds_u8 wr
  obtain ⟨ba0, ba1⟩ := bounds_u8 wa
  obtain ⟨bc0, bc1⟩ := bounds_u8 wc
  obtain ⟨x, hx⟩ : ∃ x : Nat, (x : Int) = a % 200 := ⟨(a % 200).toNat, by omega⟩
  obtain ⟨y, hy⟩ : ∃ y : Nat, (y : Int) = c % 200 := ⟨(c % 200).toNat, by omega⟩
  have hxl : x ≤ 199 := by omega
  have hyl : y ≤ 199 := by omega
  by_cases hf : (x : Int) ≤ r
  · by_cases hs : (x : Int) + y ≤ r
    · exact full_1 r x y a c hx hy br0 br1 ba0 ba1 bc0 bc1 hxl hyl hf hs w
    · exact full_2 r x y a c hx hy br0 br1 ba0 ba1 bc0 bc1 hxl hyl hf hs w
  · have hxe2 : ¬ (xs x).toList = [] := by
      intro h
      have h2 := ByteArray.toList_eq (xs x)
      have h3 := xs_size x
      rw [h] at h2
      have h4 : (xs x).data.size = 0 := by rw [← Array.length_toList, ← h2]; rfl
      have h5 : (xs x).size = (xs x).data.size := rfl
      omega
    have hxe3 : ¬ [] = (xs x).toList := fun h => hxe2 h.symm
    have hxe : (xs x).toList.isEmpty = false := by simpa using hxe2
    have hx0 : ((x : Int) == 0) = false := by rw [beq_eq_false_iff_ne]; omega
    by_cases hs : (y : Int) ≤ r
    · exact full_3 r x y a c hx hy br0 br1 ba0 ba1 bc0 bc1 hxl hyl hf hxe hxe2 hxe3 hx0 hs w
    · exact full_4 r x y a c hx hy br0 br1 ba0 ba1 bc0 bc1 hxl hyl hf hxe hxe2 hxe3 hx0 hs w
end Go.Proofs.Ytallocndghjoeaa
