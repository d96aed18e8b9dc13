/- Digits of a number, by the document: the walk. -/
import Derived.Test.YteopodohghnokaaGreatDoorWd
import Derived.Test.YteopodohghnokaaGreatDoorSf
import Derived.Laws.BytesArg
import Derived.Lib.ItoaNum
namespace Go.Proofs.YteopodohghnokaaGreatDoor
open Go Go.Proofs Go.RowKit
set_option maxRecDepth 100000
set_option linter.unusedSimpArgs false
set_option linter.unusedVariables false
set_option maxHeartbeats 2000000

theorem conv1 (w : World) (x : Int) : (convert 22 9 (.slice (some ⟨w.heap.size, 0, none⟩) 1 1)).run Tryz.prog (w.alloc (.cells #[.int .u8 x] 5)) = .ok (.string (strOfNums [x])) (w.alloc (.cells #[.int .u8 x] 5)) :=
  run_convert_bytes_arg (w.alloc (.cells #[.int .u8 x] 5)) 22 5 Tryz.underlying22 Tryz.underlying5 w.heap.size 0 1 1 [x] rfl (fun i hi => by
    obtain rfl : i = 0 := by omega
    exact (bk_cell (bk_new _ _) 0).trans rfl) 9 Tryz.underlying9
theorem digits_pos (n : Nat) (hn : n ≤ 2147483648) (w : World) : Calls Tryz.prog 16 #[.int .i64 (n : Int)] w fun e w' => e = .returned (.string ⟨(Lib.decDigits n).toArray⟩) ∧ Below w.heap.size w w' := by
  have h0 : ¬ (n : Int) < 0 := by omega
  have hu : IntKind.u64.wrap (n : Int) = n := by simp [IntKind.wrap, IntKind.bits, IntKind.signed]; omega
  go_enter Tryz.func16, Tryz.ntmps16
  go_wp2_with fail
  go_loopw [3, 4] (fun u s wr => ∃ (m : Nat) (r : ByteArray), u = .int .u64 (m : Int) ∧ s = .string r ∧ r.size + m ≤ n ∧ Lib.decDigits n = Lib.decDigits m ++ r.data.toList ∧ Below w.heap.size w wr) (fun u _ _ => (intOf u).toNat)
  case atStart => exact ⟨n, ⟨#[]⟩, rfl, rfl, Nat.le_of_eq (Nat.zero_add n), by simp, Below.refl _ _⟩
  case round =>
    obtain ⟨m, r, rfl, rfl, hm, hD, hb⟩ := hrel
    have HD := Lib.hid hD
    clear hD
    by_cases h10 : 10 ≤ m
    · have h10' : (10 : Int) ≤ m := by omega
      have hv := conv1 wr (48 + (m : Int) % 10)
      obtain ⟨s1, hs1⟩ : ∃ s1, strOfNums [48 + (m : Int) % 10] = s1 := ⟨_, rfl⟩
      rw [hs1] at hv
      have hz : s1.size = 1 := by rw [← hs1]; rfl
      have hsz : s1.size + r.size ≤ 9223372036854775807 := by omega
      have HD1 : RowKit.Hid (Lib.decDigits n = Lib.decDigits (m / 10) ++ (s1 ++ r).data.toList) := Lib.hid (by
        rw [HD.out, Lib.decDigits, dif_neg (by omega)]
        have : s1.data.toList = [UInt8.ofNat (48 + m % 10)] := by
          rw [← hs1, strOfNums_data]
          simp only [List.map_cons, List.map_nil]
          congr 2
        rw [ByteArray.data_append, Array.toList_append, this]
        simp)
      clear hs1
      have hba := hb.alloc hb.size (Obj.cells #[Value.int IntKind.u8 (48 + (m : Int) % 10)] 5)
      go_wp2_with fail
      go_roundw
      case rel => exact ⟨m / 10, s1 ++ r, congrArg (Value.int IntKind.u64) (by omega), rfl, by rw [ByteArray.size_append]; omega, HD1.out, hba⟩
      case measure => simp [intOf]; omega
    · have h10' : ¬ (10 : Int) ≤ m := by omega
      have hv := conv1 wr (48 + (m : Int))
      obtain ⟨s1, hs1⟩ : ∃ s1, strOfNums [48 + (m : Int)] = s1 := ⟨_, rfl⟩
      rw [hs1] at hv
      have hz : s1.size = 1 := by rw [← hs1]; rfl
      have hsz : s1.size + r.size ≤ 9223372036854775807 := by omega
      have HD1 : RowKit.Hid (Lib.decDigits n = (s1 ++ r).data.toList) := Lib.hid (by
        rw [HD.out, Lib.decDigits, dif_pos (by omega)]
        have : s1.data.toList = [UInt8.ofNat (48 + m)] := by
          rw [← hs1, strOfNums_data]
          simp only [List.map_cons, List.map_nil]
          congr 2
        rw [ByteArray.data_append, Array.toList_append, this])
      clear hs1
      have hba := hb.alloc hb.size (Obj.cells #[Value.int IntKind.u8 (48 + (m : Int))] 5)
      go_wp2_with fail
      go_ret
      refine ⟨?_, hba⟩
      rw [HD1.out]
      rfl
theorem digits_neg (n : Nat) (hn : n ≤ 2147483648) (hp : 0 < n) (w : World) : Calls Tryz.prog 16 #[.int .i64 (-(n : Int))] w fun e w' => e = .returned (.string ⟨(45 :: Lib.decDigits n).toArray⟩) ∧ Below w.heap.size w w' := by
  have h0 : -(n : Int) < 0 := by omega
  have hu : IntKind.u64.wrap (-(IntKind.u64.wrap (-(n : Int)))) = n := by simp [IntKind.wrap, IntKind.bits, IntKind.signed]; omega
  go_enter Tryz.func16, Tryz.ntmps16
  go_wp2_with fail
  go_loopw [3, 4] (fun u s wr => ∃ (m : Nat) (r : ByteArray), u = .int .u64 (m : Int) ∧ s = .string r ∧ r.size + m ≤ n ∧ Lib.decDigits n = Lib.decDigits m ++ r.data.toList ∧ Below w.heap.size w wr) (fun u _ _ => (intOf u).toNat)
  case atStart => exact ⟨n, ⟨#[]⟩, rfl, rfl, Nat.le_of_eq (Nat.zero_add n), by simp, Below.refl _ _⟩
  case round =>
    obtain ⟨m, r, rfl, rfl, hm, hD, hb⟩ := hrel
    have HD := Lib.hid hD
    clear hD
    by_cases h10 : 10 ≤ m
    · have h10' : (10 : Int) ≤ m := by omega
      have hv := conv1 wr (48 + (m : Int) % 10)
      obtain ⟨s1, hs1⟩ : ∃ s1, strOfNums [48 + (m : Int) % 10] = s1 := ⟨_, rfl⟩
      rw [hs1] at hv
      have hz : s1.size = 1 := by rw [← hs1]; rfl
      have hsz : s1.size + r.size ≤ 9223372036854775807 := by omega
      have HD1 : RowKit.Hid (Lib.decDigits n = Lib.decDigits (m / 10) ++ (s1 ++ r).data.toList) := Lib.hid (by
        rw [HD.out, Lib.decDigits, dif_neg (by omega)]
        have : s1.data.toList = [UInt8.ofNat (48 + m % 10)] := by
          rw [← hs1, strOfNums_data]
          simp only [List.map_cons, List.map_nil]
          congr 2
        rw [ByteArray.data_append, Array.toList_append, this]
        simp)
      clear hs1
      have hba := hb.alloc hb.size (Obj.cells #[Value.int IntKind.u8 (48 + (m : Int) % 10)] 5)
      go_wp2_with fail
      go_roundw
      case rel => exact ⟨m / 10, s1 ++ r, congrArg (Value.int IntKind.u64) (by omega), rfl, by rw [ByteArray.size_append]; omega, HD1.out, hba⟩
      case measure => simp [intOf]; omega
    · have h10' : ¬ (10 : Int) ≤ m := by omega
      have hv := conv1 wr (48 + (m : Int))
      obtain ⟨s1, hs1⟩ : ∃ s1, strOfNums [48 + (m : Int)] = s1 := ⟨_, rfl⟩
      rw [hs1] at hv
      have hz : s1.size = 1 := by rw [← hs1]; rfl
      have hsz : s1.size + r.size ≤ 9223372036854775807 := by omega
      have HD1 : RowKit.Hid (Lib.decDigits n = (s1 ++ r).data.toList) := Lib.hid (by
        rw [HD.out, Lib.decDigits, dif_pos (by omega)]
        have : s1.data.toList = [UInt8.ofNat (48 + m)] := by
          rw [← hs1, strOfNums_data]
          simp only [List.map_cons, List.map_nil]
          congr 2
        rw [ByteArray.data_append, Array.toList_append, this])
      clear hs1
      have hba := hb.alloc hb.size (Obj.cells #[Value.int IntKind.u8 (48 + (m : Int))] 5)
      go_wp2_with fail
      go_ret
      refine ⟨?_, hba⟩
      rw [HD1.out]
      rfl
end Go.Proofs.YteopodohghnokaaGreatDoor
