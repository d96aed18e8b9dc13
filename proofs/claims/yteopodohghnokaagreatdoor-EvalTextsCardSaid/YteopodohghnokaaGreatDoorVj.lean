/- A text cut at a dot; a name; a name with a dot: the walks. -/
import Derived.Test.YteopodohghnokaaGreatDoorVi
import Derived.Lib.Bytealg
import Derived.KernelRfl
namespace Go.Proofs.YteopodohghnokaaGreatDoor
open Go Go.Proofs Go.RowKit
set_option maxRecDepth 100000
set_option linter.unusedSimpArgs false
set_option linter.unusedVariables false
set_option maxHeartbeats 2000000

theorem byte_any (s : ByteArray) (c : Int) (w : World) :
    Calls Tryz.prog 161 #[.string s, .int .u8 c] w fun e w' => e = .returned (.int .i64 (Lib.indexByte s.data.toList c.toNat.toUInt8)) ∧ w' = w := by
  go_enter Tryz.func161, Tryz.ntmps161
  go_wp2
  rw [run_callFunc_extern Tryz.func182 (by kernel_rfl) (by kernel_rfl) (by kernel_rfl) (e := Extern.BytealgIndexByte.indexByte) (by kernel_rfl), Lib.run_indexByteString]
  simp only [Result.andThen]
  rw [Oper.upon_value]
  go_wp2
  go_ret
  exact ⟨rfl, rfl⟩
theorem index1_any (s : ByteArray) (hne : s.toList ≠ [46]) (w : World) :
    Calls Tryz.prog 153 #[.string s, .string ⟨#[46]⟩] w fun e w' => e = .returned (.int .i64 (Lib.indexByte s.data.toList 46)) ∧ w' = w := by
  have h1 : ([46] == s.toList) = false := beq_eq_false_iff_ne.2 (fun e => hne e.symm)
  clear hne
  go_enter Tryz.func153, Tryz.ntmps153
  go_wp2_with fail
  refine (byte_any s 46 w).mono ?_
  rintro e w' ⟨rfl, hw⟩
  subst hw
  go_wp2_with fail
  go_ret
  exact ⟨rfl, rfl⟩
theorem cut0_any (s : ByteArray) (i : Nat) (hi : i < s.size) (h : Lib.indexByte s.data.toList 46 = i) (hs : s.size ≤ 9223372036854775807) (hne : s.toList ≠ [46]) (w : World) :
    Calls Tryz.prog 134 #[.string s, .string ⟨#[46]⟩] w fun e w' => e = .returned (.tuple #[.string (s.extract 0 i), .string (s.extract (i + 1) s.size), .bool true]) ∧ Below w.heap.size w w' := by
  have HI := Lib.hid (index1_any s hne w)
  have HH := Lib.hid h
  have h1 : (0 : Int) ≤ i := by omega
  have h2 : (i : Int) ≤ s.size := by omega
  have h3 : (i : Int) + 1 ≤ s.size := by omega
  have h4 : wrap64 ((i : Int) + 1) = (i : Int) + 1 := by unfold wrap64; omega
  clear hne h
  go_enter Tryz.func134, Tryz.ntmps134
  go_wp2_with fail
  refine HI.out.mono ?_
  rintro e w' ⟨rfl, hw⟩
  subst hw
  rw [HH.out]
  clear HI HH
  go_wp2_with fail
  go_quiet (fail)
  go_wp2_with fail
  go_ret3
  exact ⟨rfl, below_drewN _ nq⟩
theorem cut_any (s : ByteArray) (i : Nat) (hi : i < s.size) (h : Lib.indexByte s.data.toList 46 = i) (hs : s.size ≤ 9223372036854775807) (hne : s.toList ≠ [46]) (w : World) :
    Calls Tryz.prog 105 #[.string s, .string ⟨#[46]⟩] w fun e w' => e = .returned (.tuple #[.string (s.extract 0 i), .string (s.extract (i + 1) s.size), .bool true]) ∧ Below w.heap.size w w' := by
  have HI := Lib.hid (cut0_any s i hi h hs hne w)
  clear hne h hi hs
  go_enter Tryz.func105, Tryz.ntmps105
  go_wp2_with fail
  refine HI.out.mono ?_
  clear HI
  rintro e w' ⟨rfl, hb⟩
  go_wp2_with fail
  go_ret3
  exact ⟨rfl, hb⟩
/-- A name with a dot and a name. -/
def nameP (s : ByteArray) : Bool := !s.toList.isEmpty && decide (s.size ≤ 24) && endF s == s.size
def dotP (s : ByteArray) : Bool := decide (0 < endF s) && decide (endF s < s.size) && (bt s (endF s) == 46) && nameP (s.extract 0 (endF s)) && nameP (s.extract (endF s + 1) s.size)
theorem name1_any (s : ByteArray) (w : World) (hs : s.size ≤ 9223372036854775807) : Calls Tryz.prog 27 #[.string s] w fun e w' => e = .returned (.bool (nameP s)) ∧ w' = w := by
  unfold nameP
  have HE := Lib.hid (end_any s w hs)
  obtain ⟨t, ht⟩ : ∃ t, s.toList.isEmpty = t := ⟨_, rfl⟩
  go_enter Tryz.func27, Tryz.ntmps27
  cases t
  · by_cases h24 : s.size ≤ 24
    · have h24' : (s.size : Int) ≤ 24 := by omega
      go_wp2_with fail
      refine HE.out.mono ?_
      rintro e w' ⟨rfl, hw⟩
      subst hw
      go_wp2_with fail
      go_ret
      refine ⟨?_, rfl⟩
      rw [ht, decide_eq_true h24]
      show Ending.returned (Value.bool _) = _
      congr 2
      rw [Bool.eq_iff_iff]
      simp
      omega
    · have h24' : ¬ (s.size : Int) ≤ 24 := by omega
      go_wp2_with fail
      go_ret
      refine ⟨?_, rfl⟩
      first
        | rfl
        | (rw [ht, decide_eq_false h24]; rfl)
  · go_wp2_with fail
    go_ret
    exact ⟨by rw [ht]; rfl, rfl⟩
theorem dotted_any (s : ByteArray) (hs : s.size ≤ 9223372036854775807) (w : World) : Calls Tryz.prog 13 #[.string s] w fun e w' => e = .returned (.bool (dotP s)) ∧ w' = w := by
  have HE := Lib.hid (end_any s w hs)
  have hle := endF_le s
  obtain ⟨E, hE⟩ : ∃ E, endF s = E := ⟨_, rfl⟩
  have HD := Lib.hid (show dotP s = (decide (0 < E) && decide (E < s.size) && (bt s E == 46) && nameP (s.extract 0 E) && nameP (s.extract (E + 1) s.size)) by unfold dotP; rw [hE])
  have HN1 := Lib.hid (name1_any (s.extract 0 E) w (by rw [ByteArray.size_extract]; omega))
  have HN2 := Lib.hid (name1_any (s.extract (E + 1) s.size) w (by rw [ByteArray.size_extract]; omega))
  go_enter Tryz.func13, Tryz.ntmps13
  go_wp2_with fail
  refine HE.out.mono ?_
  clear HE
  rw [hE] at *
  rintro e w' ⟨rfl, hw⟩
  subst hw
  clear hE
  rcases Nat.eq_zero_or_pos E with h0 | h0
  · have h0' : ¬ (0 : Int) < E := by omega
    go_wp2_with fail
    go_ret
    exact ⟨by rw [HD.out, decide_eq_false (by omega)]; rfl, rfl⟩
  · have h0' : (0 : Int) < E := by omega
    by_cases hlt : E < s.size
    · have hlt' : (E : Int) < s.size := by omega
      have hbt := bt_at hlt
      have h1 : (0 : Int) ≤ E := by omega
      have h2 : (E : Int) ≤ s.size := by omega
      have h3 : (E : Int) + 1 ≤ s.size := by omega
      have h4 : wrap64 ((E : Int) + 1) = (E : Int) + 1 := by unfold wrap64; omega
      obtain ⟨d, hd⟩ : ∃ d, (bt s E == 46) = d := ⟨_, rfl⟩
      have hD2 := HD.out
      rw [decide_eq_true h0, decide_eq_true hlt, hd] at hD2
      have HD2 := Lib.hid hD2
      clear hD2 HD
      cases d
      · go_wp2_with fail
        go_ret
        exact ⟨by rw [HD2.out]; rfl, rfl⟩
      · go_wp2_with fail
        refine HN1.out.mono ?_
        rintro e w2 ⟨rfl, hw⟩
        subst hw
        obtain ⟨a, ha⟩ : ∃ a, nameP (s.extract 0 E) = a := ⟨_, rfl⟩
        rw [ha]
        have hD3 := HD2.out
        rw [ha] at hD3
        have HD3 := Lib.hid hD3
        clear hD3 HD2 HN1 ha
        cases a
        · go_wp2_with fail
          go_ret
          exact ⟨by rw [HD3.out]; rfl, rfl⟩
        · go_wp2_with fail
          refine HN2.out.mono ?_
          rintro e w3 ⟨rfl, hw⟩
          subst hw
          obtain ⟨b, hb⟩ : ∃ a, nameP (s.extract (E + 1) s.size) = a := ⟨_, rfl⟩
          rw [hb]
          have hD4 := HD3.out
          rw [hb] at hD4
          have HD4 := Lib.hid hD4
          clear hD4 HD3 HN2 hb
          cases b
          · go_wp2_with fail
            go_ret
            exact ⟨by rw [HD4.out]; rfl, rfl⟩
          · go_wp2_with fail
            go_ret
            exact ⟨by rw [HD4.out]; rfl, rfl⟩
    · have hlt' : ¬ (E : Int) < s.size := by omega
      go_wp2_with fail
      go_ret
      exact ⟨by rw [HD.out, decide_eq_false hlt]; simp, rfl⟩
end Go.Proofs.YteopodohghnokaaGreatDoor
