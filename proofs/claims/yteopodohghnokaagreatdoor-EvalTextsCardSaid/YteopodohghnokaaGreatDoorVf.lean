/- EvalBinds: the walk, over what its callees say of the name. -/
import Derived.Test.YteopodohghnokaaGreatDoorVe
namespace Go.Proofs.YteopodohghnokaaGreatDoor
open Go Go.Proofs Go.RowKit Go.Shelf
set_option maxRecDepth 100000
set_option linter.unusedSimpArgs false
set_option linter.unusedVariables false
set_option maxHeartbeats 2000000

theorem kids4 (W : World) : Calls Tryz.prog 77 #[.int .i64 4] W fun e w' => e = .returned (.int .i64 0) ∧ w' = W := by
  go_enter Tryz.func77, Tryz.ntmps77
  go_wp2_with fail
  all_goals
    go_ret
    exact ⟨rfl, rfl⟩
theorem arms4 (W : World) : Calls Tryz.prog 28 #[.int .i64 4] W fun e w' => e = .returned (.int .i64 0) ∧ w' = W := by
  go_enter Tryz.func28, Tryz.ntmps28
  go_wp2_with fail
  all_goals
    go_ret
    exact ⟨rfl, rfl⟩

/-- One number under a name. -/
def bdN (s : ByteArray) (n : Int) : Bd := ⟨s, 1, n, ⟨#[]⟩, none, 0, 0⟩
theorem worth_two (name other : ByteArray) (a b : Int) (h : (name.toList == other.toList) = false) : worth name [bdN other 7, bdN name a, bdN name b] = .tuple #[.agg #[.int .i64 1, .int .i64 a, .string ⟨#[]⟩, .slice none 0 0], .int .i64 0] := by
  have h' : (other.toList == name.toList) = false := by
    rw [beq_eq_false_iff_ne] at h ⊢
    exact fun e => h e.symm
  unfold worth
  simp only [List.find?_cons, bdN, h', beq_self_eq_true, Bd.val]
theorem worth_none (name other : ByteArray) (h : (name.toList == other.toList) = false) : worth name [bdN other 7] = .tuple #[.agg #[.int .i64 0, .int .i64 0, .string ⟨#[]⟩, .slice none 0 0], .int .i64 2] := by
  have h' : (other.toList == name.toList) = false := by
    rw [beq_eq_false_iff_ne] at h ⊢
    exact fun e => h e.symm
  unfold worth
  simp only [List.find?_cons, bdN, h', List.find?_nil]
theorem binds_walk (name other : ByteArray) (a b : Int) (δ τ : Bool)
    (ha : -32768 ≤ a ∧ a ≤ 32767) (hb : -32768 ≤ b ∧ b ≤ 32767)
    (hdot : ∀ W, Calls Tryz.prog 13 #[.string name] W fun e w' => e = .returned (.bool δ) ∧ Below W.heap.size W w')
    (hplain : δ = true → ∀ W, Calls Tryz.prog 78 #[.agg #[.int .i64 4, .int .i64 0, .string name, .slice none 0 0, .slice none 0 0]] W fun e w' => e = .returned (.bool τ) ∧ Below W.heap.size W w')
    (hleaf : δ = true → ∀ W, Calls Tryz.prog 29 #[.agg #[.int .i64 4, .int .i64 0, .string name, .slice none 0 0, .slice none 0 0]] W fun e w' => e = .returned (.bool τ) ∧ Below W.heap.size W w')
    (hawake : ∀ W, Calls Tryz.prog 7 #[] W fun e w' => e = .returned (.bool true) ∧ Below W.heap.size W w') (w : World) :
    Calls Tryz.prog 4 #[.string name, .int .i16 a, .int .i16 b, .string other] w fun e w' => e = .returned (.bool true) ∧ Below w.heap.size w w' := by
  have HP := Lib.hid hplain
  have HL := Lib.hid hleaf
  have HA := Lib.hid hawake
  have HD := Lib.hid hdot
  have HX := Lib.hid ha
  have HY := Lib.hid hb
  clear hplain hleaf hawake hdot ha hb
  go_enter Tryz.func4, Tryz.ntmps4
  go_wp2_with fail
  refine (HD.out _).mono ?_
  clear HD
  rintro e w1 ⟨rfl, hb1⟩
  cases δ
  · go_wp2_with fail
    refine (HA.out _).mono ?_
    rintro e w2 ⟨rfl, hb2⟩
    go_wp2_with fail
    go_ret
    exact ⟨rfl, hb1.trans (hb2.mono hb1.size)⟩
  · by_cases h60 : (60 : Int) < other.size
    · go_wp2_with fail
      refine (HA.out _).mono ?_
      rintro e w2 ⟨rfl, hb2⟩
      go_wp2_with fail
      go_ret
      exact ⟨rfl, hb1.trans (hb2.mono hb1.size)⟩
    · obtain ⟨same, hsame⟩ : ∃ x, (name.toList == other.toList) = x := ⟨_, rfl⟩
      cases same
      · go_wp2_with fail
        have ea : wrap64 a = a := by unfold wrap64; have := HX.out; omega
        have eb : wrap64 b = b := by unfold wrap64; have := HY.out; omega
        rw [ea]
        obtain ⟨W, hW⟩ : ∃ W, W = w1.alloc (Obj.cells #[Value.int IntKind.i64 4, Value.int IntKind.i64 0, Value.string name, Value.slice none 0 0, Value.slice none 0 0] 29) := ⟨_, rfl⟩
        have hbW : Below w.heap.size w W := by rw [hW]; exact hb1.alloc hb1.size _
        have kW : W.heap[w1.heap.size]? = some (.cells #[Value.int IntKind.i64 4, Value.int IntKind.i64 0, Value.string name, Value.slice none 0 0, Value.slice none 0 0] 29) := by rw [hW]; exact bk_new _ _
        rw [← hW]
        refine (bind_any name a W).mono ?_
        rintro e w2 ⟨rfl, hb2⟩
        have k2 := bk_below kW hb2
        have hbb2 := hbW.trans (hb2.mono hbW.size)
        clear hb2 kW hbW hW
        go_wp2_with fail
        rw [eb]
        refine (bind_any name b w2).mono ?_
        rintro e w3 ⟨rfl, hb3⟩
        have k3 := bk_below k2 hb3
        have hbb3 := hbb2.trans (hb3.mono hbb2.size)
        clear hb3 k2 hbb2
        go_wp2_with fail
        refine (bind_any other 7 w3).mono ?_
        rintro e w4 ⟨rfl, hb4⟩
        have k4 := bk_below k3 hb4
        have hbb4 := hbb3.trans (hb4.mono hbb3.size)
        clear hb4 k3 hbb3
        go_wp2_with fail
        obtain ⟨W5, hW5⟩ : ∃ W5, W5 = ((((w4.alloc (Obj.cells #[Value.string name, Value.int IntKind.i64 1, Value.int IntKind.i64 a, Value.string ⟨#[]⟩, Value.slice none 0 0] 43)).alloc (Obj.cells #[Value.string name, Value.int IntKind.i64 1, Value.int IntKind.i64 b, Value.string ⟨#[]⟩, Value.slice none 0 0] 43)).alloc
            (Obj.cells #[Value.string other, Value.int IntKind.i64 1, Value.int IntKind.i64 7, Value.string ⟨#[]⟩, Value.slice none 0 0] 43)).alloc
            (Obj.cells #[Value.string other, Value.int IntKind.i64 1, Value.int IntKind.i64 7, Value.string ⟨#[]⟩, Value.slice none 0 0, Value.string name, Value.int IntKind.i64 1, Value.int IntKind.i64 a, Value.string ⟨#[]⟩, Value.slice none 0 0, Value.string name, Value.int IntKind.i64 1, Value.int IntKind.i64 b, Value.string ⟨#[]⟩, Value.slice none 0 0] 43)) := ⟨_, rfl⟩
        have hb5 : Below w.heap.size w W5 := by rw [hW5]; exact (((hbb4.alloc hbb4.size _).alloc (Nat.le_trans hbb4.size (by simp)) _).alloc (Nat.le_trans hbb4.size (by simp; omega)) _).alloc (Nat.le_trans hbb4.size (by simp; omega)) _
        have kn : W5.heap[w1.heap.size]? = some (.cells #[Value.int IntKind.i64 4, Value.int IntKind.i64 0, Value.string name, Value.slice none 0 0, Value.slice none 0 0] 29) := by rw [hW5]; exact bk_alloc (bk_alloc (bk_alloc (bk_alloc k4 _) _) _) _
        have kz : W5.heap[w4.heap.size + 1 + 1]? = some (.cells #[Value.string other, Value.int IntKind.i64 1, Value.int IntKind.i64 7, Value.string ⟨#[]⟩, Value.slice none 0 0] 43) := by
          rw [hW5]
          refine bk_alloc ?_ _
          have := bk_new ((w4.alloc (Obj.cells #[Value.string name, Value.int IntKind.i64 1, Value.int IntKind.i64 a, Value.string ⟨#[]⟩, Value.slice none 0 0] 43)).alloc (Obj.cells #[Value.string name, Value.int IntKind.i64 1, Value.int IntKind.i64 b, Value.string ⟨#[]⟩, Value.slice none 0 0] 43)) (Obj.cells #[Value.string other, Value.int IntKind.i64 1, Value.int IntKind.i64 7, Value.string ⟨#[]⟩, Value.slice none 0 0] 43)
          rw [World.size_alloc, World.size_alloc] at this
          exact this
        have kl : W5.heap[w4.heap.size + 1 + 1 + 1]? = some (.cells #[Value.string other, Value.int IntKind.i64 1, Value.int IntKind.i64 7, Value.string ⟨#[]⟩, Value.slice none 0 0, Value.string name, Value.int IntKind.i64 1, Value.int IntKind.i64 a, Value.string ⟨#[]⟩, Value.slice none 0 0, Value.string name, Value.int IntKind.i64 1, Value.int IntKind.i64 b, Value.string ⟨#[]⟩, Value.slice none 0 0] 43) := by
          rw [hW5]
          have := bk_new (((w4.alloc (Obj.cells #[Value.string name, Value.int IntKind.i64 1, Value.int IntKind.i64 a, Value.string ⟨#[]⟩, Value.slice none 0 0] 43)).alloc (Obj.cells #[Value.string name, Value.int IntKind.i64 1, Value.int IntKind.i64 b, Value.string ⟨#[]⟩, Value.slice none 0 0] 43)).alloc (Obj.cells #[Value.string other, Value.int IntKind.i64 1, Value.int IntKind.i64 7, Value.string ⟨#[]⟩, Value.slice none 0 0] 43))
            (Obj.cells #[Value.string other, Value.int IntKind.i64 1, Value.int IntKind.i64 7, Value.string ⟨#[]⟩, Value.slice none 0 0, Value.string name, Value.int IntKind.i64 1, Value.int IntKind.i64 a, Value.string ⟨#[]⟩, Value.slice none 0 0, Value.string name, Value.int IntKind.i64 1, Value.int IntKind.i64 b, Value.string ⟨#[]⟩, Value.slice none 0 0] 43)
          rw [World.size_alloc, World.size_alloc, World.size_alloc] at this
          exact this
        have hnd : ∀ {W : World}, W.heap[w1.heap.size]? = some (.cells #[Value.int IntKind.i64 4, Value.int IntKind.i64 0, Value.string name, Value.slice none 0 0, Value.slice none 0 0] 29) → NdAt W w1.heap.size 0 4 0 name none none 0 0 0 0 := fun h =>
          ⟨(bk_cell h 0).trans rfl, (bk_cell h 1).trans rfl, (bk_cell h 2).trans rfl, (bk_cell h 3).trans rfl, (bk_cell h 4).trans rfl⟩
        have hbd : BdsAt W5 (w4.heap.size + 1 + 1 + 1) 0 [bdN other 7, bdN name a, bdN name b] := fun i q hq => by
          match i, hq with
          | 0, hq => cases hq; exact ⟨(bk_cell kl 0).trans rfl, (bk_cell kl 1).trans rfl, (bk_cell kl 2).trans rfl, (bk_cell kl 3).trans rfl, (bk_cell kl 4).trans rfl⟩
          | 1, hq => cases hq; exact ⟨(bk_cell kl 5).trans rfl, (bk_cell kl 6).trans rfl, (bk_cell kl 7).trans rfl, (bk_cell kl 8).trans rfl, (bk_cell kl 9).trans rfl⟩
          | 2, hq => cases hq; exact ⟨(bk_cell kl 10).trans rfl, (bk_cell kl 11).trans rfl, (bk_cell kl 12).trans rfl, (bk_cell kl 13).trans rfl, (bk_cell kl 14).trans rfl⟩
          | i + 3, hq => simp at hq
        rw [← hW5]
        have HE := Lib.hid (expr_ref τ [bdN other 7, bdN name a, bdN name b] name (w4.heap.size + 1 + 1 + 1) 0 3 w1.heap.size 0 1 0 0 0 0 none none W5 hbd (by simp) (hnd kn) kids4 (fun W _ => HP.out (by simp) W))
        clear hW5 k4 hbb4 kl hbd
        refine HE.out.mono ?_
        clear HE
        rintro e w6 ⟨rfl, hb6⟩
        have hbb6 := hb5.trans (hb6.mono hb5.size)
        have kn6 := bk_below kn hb6
        have kz6 := bk_below kz hb6
        clear hb6 hb5 kn kz
        have v2 := worth_two name other a b hsame
        have v1 := worth_none name other hsame
        have z0 : w6.cell? ⟨w4.heap.size + 1 + 1, 0, none⟩ = some (.string other) := (bk_cell kz6 0).trans rfl
        have z1 : w6.cell? ⟨w4.heap.size + 1 + 1, 1, none⟩ = some (.int .i64 1) := (bk_cell kz6 1).trans rfl
        have z2 : w6.cell? ⟨w4.heap.size + 1 + 1, 2, none⟩ = some (.int .i64 7) := (bk_cell kz6 2).trans rfl
        have z3 : w6.cell? ⟨w4.heap.size + 1 + 1, 3, none⟩ = some (.string ⟨#[]⟩) := (bk_cell kz6 3).trans rfl
        have z4 : w6.cell? ⟨w4.heap.size + 1 + 1, 4, none⟩ = some (.slice none 0 0) := (bk_cell kz6 4).trans rfl
        obtain ⟨k, n, er, h1, h1f, h1t⟩ : ∃ (k n er : Int), exprF τ name [bdN other 7, bdN name a, bdN name b] = .tuple #[.agg #[.int .i64 k, .int .i64 n, .string ⟨#[]⟩, .slice none 0 0], .int .i64 er] ∧ (τ = false → er = 1) ∧ (τ = true → er = 0 ∧ n = a) := by
          cases τ
          · exact ⟨0, 0, 1, rfl, fun _ => rfl, (fun h => nomatch h)⟩
          · exact ⟨1, a, 0, v2, (fun h => nomatch h), fun _ => ⟨rfl, rfl⟩⟩
        obtain ⟨k2, n2, er2, h2, h2t⟩ : ∃ (k n er : Int), exprF τ name [bdN other 7] = .tuple #[.agg #[.int .i64 k, .int .i64 n, .string ⟨#[]⟩, .slice none 0 0], .int .i64 er] ∧ (τ = true → er = 2) := by
          cases τ
          · exact ⟨0, 0, 1, rfl, (fun h => nomatch h)⟩
          · exact ⟨0, 0, 2, v1, fun _ => rfl⟩
        have H2 := Lib.hid h2
        have H1F := Lib.hid h1f
        have H1T := Lib.hid h1t
        have H2T := Lib.hid h2t
        rw [h1]
        have y0 := cell_alloc (.cells #[.int .i64 k, .int .i64 n, .string ⟨#[]⟩, .slice none 0 0] 33) z0
        have y1 := cell_alloc (.cells #[.int .i64 k, .int .i64 n, .string ⟨#[]⟩, .slice none 0 0] 33) z1
        have y2 := cell_alloc (.cells #[.int .i64 k, .int .i64 n, .string ⟨#[]⟩, .slice none 0 0] 33) z2
        have y3 := cell_alloc (.cells #[.int .i64 k, .int .i64 n, .string ⟨#[]⟩, .slice none 0 0] 33) z3
        have y4 := cell_alloc (.cells #[.int .i64 k, .int .i64 n, .string ⟨#[]⟩, .slice none 0 0] 33) z4
        clear v1 v2 h1 h2 h1f h1t h2t ea eb
        go_wp2_with fail
        obtain ⟨W7, hW7⟩ : ∃ W7, W7 = (w6.alloc (Obj.cells #[Value.int IntKind.i64 k, Value.int IntKind.i64 n, Value.string ⟨#[]⟩, Value.slice none 0 0] 33)).alloc (Obj.cells #[Value.string other, Value.int IntKind.i64 1, Value.int IntKind.i64 7, Value.string ⟨#[]⟩, Value.slice none 0 0] 43) := ⟨_, rfl⟩
        have hb7 : Below w.heap.size w W7 := by rw [hW7]; exact (hbb6.alloc hbb6.size _).alloc (Nat.le_trans hbb6.size (by simp)) _
        have kn7 : W7.heap[w1.heap.size]? = some (.cells #[Value.int IntKind.i64 4, Value.int IntKind.i64 0, Value.string name, Value.slice none 0 0, Value.slice none 0 0] 29) := by rw [hW7]; exact bk_alloc (bk_alloc kn6 _) _
        have kv7 : W7.heap[w6.heap.size]? = some (.cells #[Value.int IntKind.i64 k, Value.int IntKind.i64 n, Value.string ⟨#[]⟩, Value.slice none 0 0] 33) := by rw [hW7]; exact bk_alloc (bk_new _ _) _
        have kl7 : W7.heap[w6.heap.size + 1]? = some (.cells #[Value.string other, Value.int IntKind.i64 1, Value.int IntKind.i64 7, Value.string ⟨#[]⟩, Value.slice none 0 0] 43) := by
          rw [hW7]
          have := bk_new (w6.alloc (Obj.cells #[Value.int IntKind.i64 k, Value.int IntKind.i64 n, Value.string ⟨#[]⟩, Value.slice none 0 0] 33)) (Obj.cells #[Value.string other, Value.int IntKind.i64 1, Value.int IntKind.i64 7, Value.string ⟨#[]⟩, Value.slice none 0 0] 43)
          rw [World.size_alloc] at this
          exact this
        have hbd7 : BdsAt W7 (w6.heap.size + 1) 0 [bdN other 7] := fun i q hq => by
          match i, hq with
          | 0, hq => cases hq; exact ⟨(bk_cell kl7 0).trans rfl, (bk_cell kl7 1).trans rfl, (bk_cell kl7 2).trans rfl, (bk_cell kl7 3).trans rfl, (bk_cell kl7 4).trans rfl⟩
          | i + 1, hq => simp at hq
        rw [← hW7]
        have HE := Lib.hid (expr_ref τ [bdN other 7] name (w6.heap.size + 1) 0 1 w1.heap.size 0 1 0 0 0 0 none none W7 hbd7 (by simp) (hnd kn7) kids4 (fun W _ => HP.out (by simp) W))
        clear hW7 kn6 kz6 hbb6 kl7 hbd7 y0 y1 y2 y3 y4 z0 z1 z2 z3 z4
        refine HE.out.mono ?_
        clear HE
        rintro e w8 ⟨rfl, hb8⟩
        have hbb8 := hb7.trans (hb8.mono hb7.size)
        have kn8 := bk_below kn7 hb8
        have kv8 := bk_below kv7 hb8
        clear hb8 hb7 kn7 kv7
        rw [H2.out]
        go_wp2_with fail
        obtain ⟨W9, hW9⟩ : ∃ W9, W9 = w8.alloc (Obj.cells #[Value.int IntKind.i64 k2, Value.int IntKind.i64 n2, Value.string ⟨#[]⟩, Value.slice none 0 0] 33) := ⟨_, rfl⟩
        have hb9 : Below w.heap.size w W9 := by rw [hW9]; exact hbb8.alloc hbb8.size _
        have kn9 : W9.heap[w1.heap.size]? = some (.cells #[Value.int IntKind.i64 4, Value.int IntKind.i64 0, Value.string name, Value.slice none 0 0, Value.slice none 0 0] 29) := by rw [hW9]; exact bk_alloc kn8 _
        have kv9 : W9.heap[w6.heap.size]? = some (.cells #[Value.int IntKind.i64 k, Value.int IntKind.i64 n, Value.string ⟨#[]⟩, Value.slice none 0 0] 33) := by rw [hW9]; exact bk_alloc kv8 _
        rw [← hW9]
        clear hW9 hbb8 kn8 kv8
        refine (tree1_one τ 4 0 name none none 0 0 0 w1.heap.size 0 1 W9 (hnd kn9) arms4 (fun W _ => HL.out (by simp) W)).mono ?_
        rintro e wa ⟨rfl, hba⟩
        have hbba := hb9.trans (hba.mono hb9.size)
        have kva := bk_below kv9 hba
        have va : wa.cell? ⟨w6.heap.size, 1, none⟩ = some (.int .i64 n) := (bk_cell kva 1).trans rfl
        clear hba hb9 kn9 kv9 kva hnd
        cases τ
        · obtain rfl := H1F.out rfl
          go_wp2_with fail
          refine (num_any 1 wa).mono ?_
          rintro e wb ⟨rfl, rfl⟩
          go_wp2_with fail
          refine (HA.out _).mono ?_
          rintro e wc ⟨rfl, hbc⟩
          go_wp2_with fail
          go_ret
          exact ⟨rfl, hbba.trans (hbc.mono hbba.size)⟩
        · obtain ⟨rfl, rfl⟩ := H1T.out rfl
          obtain rfl := H2T.out rfl
          have ea : wrap64 n = n := by unfold wrap64; have := HX.out; omega
          go_wp2_with fail
          refine (num_any 0 wa).mono ?_
          rintro e wb ⟨rfl, rfl⟩
          go_wp2_with fail
          refine (num_any 2 wb).mono ?_
          rintro e wc ⟨rfl, rfl⟩
          go_wp2_with fail
          refine (HA.out _).mono ?_
          rintro e wd ⟨rfl, hbd⟩
          go_wp2_with fail
          go_ret
          exact ⟨rfl, hbba.trans (hbd.mono hbba.size)⟩
      · go_wp2_with fail
        refine (HA.out _).mono ?_
        rintro e w2 ⟨rfl, hb2⟩
        go_wp2_with fail
        go_ret
        exact ⟨rfl, hb1.trans (hb2.mono hb1.size)⟩
end Go.Proofs.YteopodohghnokaaGreatDoor
