/- Attributes: the first of a name; the first of a kind: the walks. -/
import Derived.Test.YtbmjdkbakeckoaaGb
namespace Go.Proofs.Ytbmjdkbakeckoaa
open Go Go.RowKit Go.Proofs.YtbmjdkbakeckoaaW.PrintWords Go.Proofs.YtbmjdkbakeckoaaW.PrintLast Go.Proofs.YtbmjdkbakeckoaaW.PrintMore Go.Proofs.Ytbmjdkbakeckoaa.PRefsAll
set_option maxRecDepth 100000
set_option linter.unusedSimpArgs false
set_option linter.unusedVariables false
set_option maxHeartbeats 4000000

/-- An attribute's cells, at an address written out. -/
theorem attr_cells {w : World} {A : Option Addr} {n : Nat} {l : List S27} (h : Kd.C k27 w A n l) (i : Nat) (hi : i < n) :
    ∃ b o A1 c1, A = some ⟨b, o, none⟩ ∧ b < w.heap.size ∧ w.cell? ⟨b, o + i * 2, none⟩ = some (.string (rd_T27 l i).f0) ∧ w.cell? ⟨b, o + i * 2 + 1, none⟩ = some (.slice A1 (rd_T27 l i).f1.length c1) ∧ (rd_T27 l i).f1.length ≤ c1 ∧ Kd.C k47 w A1 (rd_T27 l i).f1.length (rd_T27 l i).f1 := by
  obtain ⟨ad, A1, c1, rfl, h0, h1, h2, h3⟩ := at_T27 h i (by omega) (by omega)
  obtain ⟨ad2, _, _, e2, g0, _⟩ := at_T27 h 0 (by omega) (by omega)
  injection e2 with e2
  subst e2
  rw [show (0 : Int).toNat * 2 = 0 from rfl, Addr.add_zero'] at g0
  have hsp := World.cell?_spot g0
  obtain ⟨b, o, sp⟩ := ad
  simp only at hsp
  subst hsp
  have ht : ((i : Int)).toNat = i := by omega
  rw [ht] at h0 h1
  have e1 : (⟨b, o, none⟩ : Addr).add (i * 2) = ⟨b, o + i * 2, none⟩ := by unfold Addr.add; split <;> simp_all
  rw [e1] at h0 h1
  exact ⟨b, o, A1, c1, rfl, World.block_lt_of_cell? w _ h0, h0, h1, h2, h3⟩
theorem rd27 (l : List S27) (i : Nat) (h : i < l.length) : l[i]? = some (rd_T27 l i) := by
  unfold rd_T27
  simp [List.getD, h]

/-- The first place from i on. -/
def idxF (q : S27 → Bool) : List S27 → Nat → Int
  | [], _ => -1
  | x :: l, i => if q x then (i : Int) else idxF q l (i + 1)

theorem indexf1_any (q : S27 → Bool) (p1 : Option Addr) (l : List S27) (A : Option Addr) (c : Nat) (w : World) (hl : Kd.C k27 w A l.length l) (hn : l.length ≤ 1000)
    (hq : ∀ x ∈ l, ∀ A1 c1 W, Below w.heap.size w W → Calls Try.prog 34 #[.agg #[.string x.f0, .slice A1 x.f1.length c1], .pointer p1] W fun e w' => e = .returned (.bool (q x)) ∧ Below W.heap.size W w') :
    Calls Try.prog 21 #[.slice A l.length c, .func (.func 34) #[] #[.pointer p1]] w fun e w' => e = .returned (.int .i64 (idxF q l 0)) ∧ Below w.heap.size w w' := by
  have HL := Lib.hid hl
  have HQ := Lib.hid hq
  clear hl hq
  go_enter Try.func21, Try.ntmps21
  go_wp2_with fail
  go_loopw [8] (fun iv wr => ∃ i : Nat, i ≤ l.length ∧ iv = .int .i64 i ∧ idxF q (l.drop i) i = idxF q l 0 ∧ Below w.heap.size w wr) (fun iv _ => l.length - (intOf iv).toNat)
  case atStart => exact ⟨0, by omega, rfl, rfl, Below.refl _ _⟩
  case round =>
    obtain ⟨i, hi, rfl, hF, hb⟩ := hrel
    have HF := Lib.hid hF
    clear hF
    by_cases hlt : i < l.length
    · obtain ⟨β, o, A1, c1, rfl, hβ, q0, q1, h2, h3⟩ := attr_cells HL.out i hlt
      have q0 := (hb.cell (p := ⟨β, o + i * 2, none⟩) hβ).trans q0
      have q1 := (hb.cell (p := ⟨β, o + i * 2 + 1, none⟩) hβ).trans q1
      have hrd := rd27 l i hlt
      have hd : l.drop i = rd_T27 l i :: l.drop (i + 1) := by
        rw [List.drop_eq_getElem_cons hlt]
        congr 1
        exact Option.some.inj ((List.getElem?_eq_getElem hlt).symm.trans hrd)
      have HQ2 := Lib.hid (HQ.out _ (List.mem_of_getElem? hrd) A1 c1 wr hb)
      have HD := Lib.hid (show idxF q (rd_T27 l i :: l.drop (i + 1)) i = idxF q l 0 by rw [← hd]; exact HF.out)
      obtain ⟨x, hx⟩ : ∃ x, rd_T27 l i = x := ⟨_, rfl⟩
      rw [hx] at q0 q1 HQ2 HD
      obtain ⟨t, ex⟩ := x
      dsimp only at q0 q1 HQ2
      have HBi := Lib.hid hb
      clear hd hrd hx h2 h3 hb HF
      obtain ⟨τ, hτ⟩ : ∃ τ, q ⟨t, ex⟩ = τ := ⟨_, rfl⟩
      have HD2 := HD.out
      simp only [idxF, hτ] at HD2
      rw [hτ] at HQ2
      have HD3 := Lib.hid HD2
      clear HD2 HD hτ
      go_wp2_with fail
      refine HQ2.out.mono ?_
      clear HQ2
      rintro e w2 ⟨rfl, hb2⟩
      have hbb := HBi.out.trans (hb2.mono HBi.out.size)
      cases τ
      · go_wp2_with fail
        go_roundw
        case rel => exact ⟨i + 1, by omega, by go_num, HD3.out, hbb⟩
        case measure => simp [intOf]; omega
      · go_wp2_with fail
        go_ret
        exact ⟨by have := HD3.out; rw [← this]; rfl, hbb⟩
    · obtain rfl : i = l.length := by omega
      go_wp2_with fail
      go_ret
      exact ⟨by have := HF.out; rw [List.drop_length] at this; rw [← this]; rfl, hb⟩

theorem indexf3_any (q : S27 → Bool) (p1 p2 p3 : Option Addr) (l : List S27) (A : Option Addr) (c : Nat) (w : World) (hl : Kd.C k27 w A l.length l) (hn : l.length ≤ 1000)
    (hq : ∀ x ∈ l, ∀ A1 c1 W, Below w.heap.size w W → Calls Try.prog 22 #[.agg #[.string x.f0, .slice A1 x.f1.length c1], .pointer p1, .pointer p2, .pointer p3] W fun e w' => e = .returned (.bool (q x)) ∧ Below W.heap.size W w') :
    Calls Try.prog 21 #[.slice A l.length c, .func (.func 22) #[] #[.pointer p1, .pointer p2, .pointer p3]] w fun e w' => e = .returned (.int .i64 (idxF q l 0)) ∧ Below w.heap.size w w' := by
  have HL := Lib.hid hl
  have HQ := Lib.hid hq
  clear hl hq
  go_enter Try.func21, Try.ntmps21
  go_wp2_with fail
  go_loopw [8] (fun iv wr => ∃ i : Nat, i ≤ l.length ∧ iv = .int .i64 i ∧ idxF q (l.drop i) i = idxF q l 0 ∧ Below w.heap.size w wr) (fun iv _ => l.length - (intOf iv).toNat)
  case atStart => exact ⟨0, by omega, rfl, rfl, Below.refl _ _⟩
  case round =>
    obtain ⟨i, hi, rfl, hF, hb⟩ := hrel
    have HF := Lib.hid hF
    clear hF
    by_cases hlt : i < l.length
    · obtain ⟨β, o, A1, c1, rfl, hβ, q0, q1, h2, h3⟩ := attr_cells HL.out i hlt
      have q0 := (hb.cell (p := ⟨β, o + i * 2, none⟩) hβ).trans q0
      have q1 := (hb.cell (p := ⟨β, o + i * 2 + 1, none⟩) hβ).trans q1
      have hrd := rd27 l i hlt
      have hd : l.drop i = rd_T27 l i :: l.drop (i + 1) := by
        rw [List.drop_eq_getElem_cons hlt]
        congr 1
        exact Option.some.inj ((List.getElem?_eq_getElem hlt).symm.trans hrd)
      have HQ2 := Lib.hid (HQ.out _ (List.mem_of_getElem? hrd) A1 c1 wr hb)
      have HD := Lib.hid (show idxF q (rd_T27 l i :: l.drop (i + 1)) i = idxF q l 0 by rw [← hd]; exact HF.out)
      obtain ⟨x, hx⟩ : ∃ x, rd_T27 l i = x := ⟨_, rfl⟩
      rw [hx] at q0 q1 HQ2 HD
      obtain ⟨t, ex⟩ := x
      dsimp only at q0 q1 HQ2
      have HBi := Lib.hid hb
      clear hd hrd hx h2 h3 hb HF
      obtain ⟨τ, hτ⟩ : ∃ τ, q ⟨t, ex⟩ = τ := ⟨_, rfl⟩
      have HD2 := HD.out
      simp only [idxF, hτ] at HD2
      rw [hτ] at HQ2
      have HD3 := Lib.hid HD2
      clear HD2 HD hτ
      go_wp2_with fail
      refine HQ2.out.mono ?_
      clear HQ2
      rintro e w2 ⟨rfl, hb2⟩
      have hbb := HBi.out.trans (hb2.mono HBi.out.size)
      cases τ
      · go_wp2_with fail
        go_roundw
        case rel => exact ⟨i + 1, by omega, by go_num, HD3.out, hbb⟩
        case measure => simp [intOf]; omega
      · go_wp2_with fail
        go_ret
        exact ⟨by have := HD3.out; rw [← this]; rfl, hbb⟩
    · obtain rfl : i = l.length := by omega
      go_wp2_with fail
      go_ret
      exact ⟨by have := HF.out; rw [List.drop_length] at this; rw [← this]; rfl, hb⟩

/-- The place of the first attribute of a name. -/
def findF (l : List S27) (t : ByteArray) : Int := idxF (fun x => toL x.f0 == toL t) l 0
theorem find_any (l : List S27) (t : ByteArray) (A : Option Addr) (c : Nat) (w : World) (hl : Kd.C k27 w A l.length l) (hn : l.length ≤ 1000) :
    Calls Try.prog 18 #[.slice A l.length c, .string t] w fun e w' => e = .returned (.int .i64 (findF l t)) ∧ Below w.heap.size w w' := by
  have hcl : ∀ (x : S27) A1 c1 (W : World), W.cell? ⟨w.heap.size, 0, none⟩ = some (.string t) → Calls Try.prog 34 #[.agg #[.string x.f0, .slice A1 x.f1.length c1], .pointer (some ⟨w.heap.size, 0, none⟩)] W fun e w' => e = .returned (.bool (toL x.f0 == toL t)) ∧ Below W.heap.size W w' := by
    rintro ⟨n, ex⟩ A1 c1 W h
    have h2 := cell_alloc (.cells #[.string n, .slice A1 ex.length c1] 27) h
    dsimp only
    go_enter Try.func34, Try.ntmps34
    go_wp2_with fail
    go_ret
    exact ⟨by rw [toList_toL, toList_toL]; rfl, (Below.refl _ _).alloc (Nat.le_refl _) _⟩
  obtain ⟨W, hW⟩ : ∃ W, W = w.alloc (Obj.cells #[Value.string t] 9) := ⟨_, rfl⟩
  have hbW : Below w.heap.size w W := by rw [hW]; exact (Below.refl _ _).alloc (Nat.le_refl _) _
  have k1 : W.cell? ⟨w.heap.size, 0, none⟩ = some (.string t) := by rw [hW]; exact (bk_cell (bk_new _ _) 0).trans rfl
  have hix := indexf1_any (fun x => toL x.f0 == toL t) (some ⟨w.heap.size, 0, none⟩) l A c W (Kd.C_below hl hbW) hn (fun x _ A1 c1 W2 hb2 => hcl x A1 c1 W2 (cell_below hb2 k1))
  have HI := Lib.hid hix
  have HW := Lib.hid hW
  clear hcl k1 hix hW hl
  go_enter Try.func18, Try.ntmps18
  go_wp2_with fail
  rw [← HW.out]
  refine HI.out.mono ?_
  rintro e w2 ⟨rfl, hb2⟩
  have hbb := hbW.trans (hb2.mono hbW.size)
  clear HI
  go_wp2_with fail
  go_ret
  exact ⟨rfl, hbb⟩
end Go.Proofs.Ytbmjdkbakeckoaa
namespace Go.Proofs.Ytbmjdkbakeckoaa
open Go Go.RowKit Go.Proofs.YtbmjdkbakeckoaaW.PrintWords Go.Proofs.YtbmjdkbakeckoaaW.PrintLast Go.Proofs.YtbmjdkbakeckoaaW.PrintMore Go.Proofs.Ytbmjdkbakeckoaa.PRefsAll
set_option maxRecDepth 100000
set_option linter.unusedSimpArgs false
set_option linter.unusedVariables false
set_option maxHeartbeats 4000000

theorem string_cells {w : World} {A : Option Addr} {n : Nat} {l : List ByteArray} (h : Kd.string.C w A n l) (i : Nat) (hi : i < n) :
    ∃ b o, A = some ⟨b, o, none⟩ ∧ b < w.heap.size ∧ w.cell? ⟨b, o + i, none⟩ = some (.string (l[i]?.getD ByteArray.empty)) := by
  obtain ⟨ad, rfl, h0⟩ := Kd.at_string h i (by omega) (by omega)
  obtain ⟨ad2, e2, g0⟩ := Kd.at_string h 0 (by omega) (by omega)
  injection e2 with e2
  subst e2
  rw [show (0 : Int).toNat = 0 from rfl, Addr.add_zero'] at g0
  have hsp := World.cell?_spot g0
  obtain ⟨b, o, sp⟩ := ad
  simp only at hsp
  subst hsp
  have ht : ((i : Int)).toNat = i := by omega
  rw [ht] at h0
  have e1 : (⟨b, o, none⟩ : Addr).add i = ⟨b, o + i, none⟩ := by unfold Addr.add; split <;> simp_all
  rw [e1] at h0
  refine ⟨b, o, rfl, World.block_lt_of_cell? w _ h0, h0.trans ?_⟩
  simp [rdOf, ht]
theorem ofF_len (l : List S47) (hf : Fits l) : (ofF l).length ≤ 10100 := by
  unfold ofF
  split
  · have h1 := onceF_len (l.flatMap refsOf)
    have h2 := flat_len l (fun x hx => (hf.2 x hx).2.1)
    have := hf.1
    omega
  · simp
/-- The name of a reference to a local. -/
def locF (s : ByteArray) : Option ByteArray := if 6 < s.size ∧ (s.extract 0 6).toList = [108, 111, 99, 97, 108, 46] then some (s.extract 6 s.size) else none
/-- The places that references mean; none: one means none. -/
def needF (l : List S27) : List ByteArray → List Int → Option (List Int)
  | [], out => some out
  | s :: rs, out => match locF s with
    | none => needF l rs out
    | some t => if findF l t < 0 then none else needF l rs (out ++ [findF l t])

theorem needs_any (l : List S27) (i : Nat) (m : Int) (A : Option Addr) (c : Nat) (w : World) (hm : w.cell? ⟨0, 0, none⟩ = some (.int .i64 m)) (hl : Kd.C k27 w A l.length l) (hn : l.length ≤ 1000) (hi : i < l.length) (hf : Fits (rd_T27 l i).f1) :
    Calls Try.prog 20 #[.slice A l.length c, .int .i64 i] w fun e w' => (match needF l (ofF (rd_T27 l i).f1) [] with
      | none => e = .returned (.tuple #[.slice none 0 0, .bool false])
      | some out => ∃ A c, e = .returned (.tuple #[.slice A out.length c, .bool true]) ∧ out.length ≤ c ∧ (Kd.int .i64).C w' A out.length out) ∧ Below w.heap.size w w' := by
  obtain ⟨β, o, A1, c1, rfl, hβ, q0, q1, h2, h3⟩ := attr_cells hl i hi
  obtain ⟨x, hx⟩ : ∃ x, rd_T27 l i = x := ⟨_, rfl⟩
  rw [hx] at q0 q1 h2 h3 hf ⊢
  obtain ⟨t, ex⟩ := x
  dsimp only at q0 q1 h2 h3 hf ⊢
  have HOf := Lib.hid (of_any ex A1 c1 m w hm hf h3)
  have hrl := ofF_len ex hf
  have HL := Lib.hid hl
  obtain ⟨rs, hrs⟩ : ∃ rs, ofF ex = rs := ⟨_, rfl⟩
  rw [hrs] at HOf hrl ⊢
  obtain ⟨R, hR⟩ : ∃ R, needF l rs [] = R := ⟨_, rfl⟩
  rw [hR]
  have HR := Lib.hid hR
  obtain ⟨base, hbase⟩ : ∃ b, w.heap.size = b := ⟨_, rfl⟩
  have HBase := Lib.hid hbase
  rw [hbase] at HOf ⊢
  clear hR hrs h3 hl hx hm hf hbase
  go_enter Try.func20, Try.ntmps20
  go_wp2_with fail
  refine HOf.out.mono ?_
  rintro e w1 ⟨⟨A2, c2, rfl, hle, hC⟩, hb1⟩
  have HC := Lib.hid hC
  have HB1 := Lib.hid hb1
  clear HOf hC hb1
  go_wp2_with fail
  go_loopw [6, 17] (fun ov iv wr => ∃ (j : Nat) (out : List Int), j ≤ rs.length ∧ iv = .int .i64 j ∧ out.length ≤ j ∧ needF l (rs.drop j) out = R ∧ (Kd.int .i64).R 3 wr w1.heap.size (fun _ => True) ov out ∧ Below base w wr ∧ Below w1.heap.size w1 wr) (fun _ iv _ => rs.length - (intOf iv).toNat)
  case atStart => exact ⟨0, [], by omega, rfl, by simp, HR.out, Kd.R_nil _ _ _ _ _, HB1.out, Below.refl _ _⟩
  case round =>
    obtain ⟨j, out, hj, rfl, hoj, hF, hO, hb, hbx⟩ := hrel
    have HF := Lib.hid hF
    have HO := Lib.hid hO
    have HB := Lib.hid hb
    have HBx := Lib.hid hbx
    clear hF hO hb hbx
    by_cases hlt : j < rs.length
    · obtain ⟨b4, o4, rfl, hb4, p0⟩ := string_cells HC.out j hlt
      have p0 := (HBx.out.cell (p := ⟨b4, o4 + j, none⟩) hb4).trans p0
      have hd : rs.drop j = rs[j]?.getD ByteArray.empty :: rs.drop (j + 1) := by
        rw [List.drop_eq_getElem_cons hlt]
        simp [hlt]
      obtain ⟨s, hs⟩ : ∃ s, rs[j]?.getD ByteArray.empty = s := ⟨_, rfl⟩
      rw [hs] at p0 hd
      have hF2 := HF.out
      rw [hd] at hF2
      simp only [needF] at hF2
      have HF2 := Lib.hid hF2
      clear hF2 hd hs HF
      by_cases h6 : s.size ≤ 6
      · have hloc : locF s = none := by unfold locF; rw [if_neg (by omega)]
        have hF3 := HF2.out
        rw [hloc] at hF3
        have HF3 := Lib.hid hF3
        have h6' : (s.size : Int) ≤ 6 := by omega
        clear hF3 HF2 hloc h6
        go_wp2_with fail
        go_roundw
        case rel => exact ⟨j + 1, out, by omega, by go_num, by omega, HF3.out, HO.out, HB.out, HBx.out⟩
        case measure => simp [intOf]; omega
      · have h6' : (6 : Int) < s.size := by omega
        have h6b : ¬ (s.size : Int) ≤ 6 := by omega
        have h6c : (6 : Int) ≤ s.size := by omega
        by_cases hp : (s.extract 0 6).toList = [108, 111, 99, 97, 108, 46]
        · have hloc : locF s = some (s.extract 6 s.size) := by unfold locF; rw [if_pos ⟨by omega, hp⟩]
          have hp2 : ((s.extract 0 6).toList != [108, 111, 99, 97, 108, 46]) = false := by simp [hp]
          have hF3 := HF2.out
          rw [hloc] at hF3
          dsimp only at hF3
          have HF3 := Lib.hid hF3
          have HFi := Lib.hid (fun W (hW : Below base w W) => find_any l (s.extract 6 s.size) (some ⟨β, o, none⟩) c W (Kd.C_below HL.out (by rw [HBase.out]; exact hW)) hn)
          clear hF3 HF2 hloc h6
          obtain ⟨kk, hkk⟩ : ∃ kk, findF l (s.extract 6 s.size) = kk := ⟨_, rfl⟩
          rw [hkk] at HF3 HFi
          clear hkk
          have hkr : -9223372036854775808 ≤ kk ∧ kk ≤ 9223372036854775807 ∨ True := .inr trivial
          clear hkr
          go_wp2_with fail
          refine (HFi.out _ HB.out).mono ?_
          rintro e w2 ⟨rfl, hb2⟩
          have HB2 := Lib.hid (HB.out.trans (hb2.mono (by rw [← HBase.out]; exact HB.out.size)))
          have HBy := Lib.hid (HBx.out.trans (hb2.mono HBx.out.size))
          have HO2 := Lib.hid (Kd.R_below HO.out hb2)
          have hsz : w1.heap.size ≤ w2.heap.size := HBy.out.size
          have hsb : base ≤ w1.heap.size := by have := HB1.out.size; rw [HBase.out] at this; exact this
          clear hb2 HFi HO HB HBx hp hp2
          by_cases hneg : kk < 0
          · have hRn : none = R := by
              have := HF3.out
              rw [if_pos hneg] at this
              exact this
            subst hRn
            go_wp2_with fail
            go_ret2
            exact ⟨rfl, HB2.out⟩
          · have hRs : needF l (rs.drop (j + 1)) (out ++ [kk]) = R := by
              have := HF3.out
              rw [if_neg hneg] at this
              exact this
            have HRs := Lib.hid hRs
            clear hRs HF3
            obtain ⟨A6, c6, hv6⟩ := Kd.R_slice HO2.out
            subst hv6
            go_wp2_with ((with_reducible refine gate_builtin (b := .append) (xs := #[.tmp 35, .tmp 37]) rfl ?_); at_builtin; refine Kd.R_append (Kd.int .i64) (w0 := w2) w1.heap.size rfl (.tmp 35) (.tmp 37) 28 3 (.int .i64 0) 8 rfl Try.underlying28 info3 rfl (by decide) (by omega) (.slice A6 out.length c6) out kk [.int .i64 kk] (fun _ => True) (fun _ => False) rfl rfl ?aP (fun _ hk => hk.elim) ?aF ?aO ?aB ?aS ?aL ?_; (case aP => exact rfl); (case aF => intro k hk; trivial); (case aO => exact HO2.out); (case aB => exact Below.refl _ _); (case aS => exact hsz); (case aL => omega); intro v1 w3 ho hb3 hg hat; obtain ⟨A7, c7, rfl⟩ := Kd.R_slice ho; rw [List.length_append, List.length_singleton] at ho; have HO3 := Lib.hid ho; have HB3 := Lib.hid hb3; have HG3 := Lib.hid hg; clear ho hb3 hg hat)
            go_roundw
            case rel => exact ⟨j + 1, out ++ [kk], by omega, by go_num, by simp; omega, HRs.out, HO3.out, HB2.out.trans (HB3.out.mono hsb), HBy.out.trans HB3.out⟩
            case measure => simp [intOf]; omega
        · have hloc : locF s = none := by unfold locF; rw [if_neg (fun e => hp e.2)]
          have hF3 := HF2.out
          rw [hloc] at hF3
          have HF3 := Lib.hid hF3
          have hp2 : ((s.extract 0 6).toList != [108, 111, 99, 97, 108, 46]) = true := by simp [hp]
          have hp3 : ((s.extract 0 6).toList == [108, 111, 99, 97, 108, 46]) = false := by simp [hp]
          clear hF3 HF2 hloc h6
          go_wp2_with fail
          go_roundw
          case rel => exact ⟨j + 1, out, by omega, by go_num, by omega, HF3.out, HO.out, HB.out, HBx.out⟩
          case measure => simp [intOf]; omega
    · obtain rfl : j = rs.length := by omega
      obtain ⟨A6, c6, rfl, hle6, hC6⟩ := Kd.R_reads HO.out
      have hRs : some out = R := by
        have := HF.out
        rw [List.drop_length] at this
        exact this
      have HC6 := Lib.hid hC6
      subst hRs
      clear HF HO hC6
      go_wp2_with fail
      go_ret2
      exact ⟨⟨A6, c6, rfl, hle6, HC6.out⟩, HB.out⟩
end Go.Proofs.Ytbmjdkbakeckoaa
namespace Go.Proofs.Ytbmjdkbakeckoaa
open Go Go.RowKit Go.Proofs.YtbmjdkbakeckoaaW.PrintWords Go.Proofs.YtbmjdkbakeckoaaW.PrintLast Go.Proofs.YtbmjdkbakeckoaaW.PrintMore Go.Proofs.Ytbmjdkbakeckoaa.PRefsAll
set_option maxRecDepth 100000
set_option linter.unusedSimpArgs false
set_option linter.unusedVariables false
set_option maxHeartbeats 4000000

/-- Ints lie where they lay, where a block of no ints alone has turned. -/
theorem C_same {W W' : World} {O n : Nat} {A : Option Addr} {xs : List Int} (h : (Kd.int .i64).C W A n xs) (hO : ∀ j z, W.cell? ⟨O, j, none⟩ ≠ some (.int .i64 z)) (hs : ∀ b, b < W.heap.size → b ≠ O → W'.heap[b]? = W.heap[b]?) : (Kd.int .i64).C W' A n xs := by
  have hr : ReadsOf (Value.int .i64) (0 : Int) W A n xs := Kd.reads_of_C h
  refine Kd.C_of_reads (d := (0 : Int)) ⟨hr.1, hr.2.1, fun hn => ?_⟩
  obtain ⟨ad, e, hc⟩ := hr.2.2 hn
  refine ⟨ad, e, fun j hj => ?_⟩
  have h1 := hc j hj
  obtain ⟨b, o, e2, hb, h2⟩ := int_cells h j hj
  rw [e] at e2
  injection e2 with e2
  subst e2
  have e1 : (⟨b, o, none⟩ : Addr).add j = ⟨b, o + j, none⟩ := by unfold Addr.add; split <;> simp_all
  rw [e1] at h1 ⊢
  have hbO : b ≠ O := by
    rintro rfl
    exact hO _ _ h1
  rw [← h1]
  simp only [World.cell?, hs b hb hbO]

theorem contains_any (out : List Int) (A : Option Addr) (c : Nat) (x : Int) (w : World) (h : (Kd.int .i64).C w A out.length out) (hn : out.length ≤ 100000) :
    Calls Try.prog 23 #[.slice A out.length c, .int .i64 x] w fun e w' => e = .returned (.bool (out.contains x)) ∧ w' = w := by
  by_cases h0 : out.length = 0
  · obtain rfl := List.eq_nil_of_length_eq_zero h0
    exact Try.slices_Contains_int_empty A c x w
  · obtain ⟨b, o, rfl, hb, _⟩ := int_cells h 0 (by omega)
    have := Try.slices_Contains_int b o out.length c out x w (Nat.le_refl _) (by omega) (fun j hj => by
      obtain ⟨b2, o2, e, _, h2⟩ := int_cells h j hj
      cases e
      rw [h2, List.getD_eq_getElem?_getD])
    rw [List.take_length] at this
    exact this

theorem cl25_any (out : List Int) (A : Option Addr) (c O : Nat) (k : Int) (w : World) (h : (Kd.int .i64).C w A out.length out) (hn : out.length ≤ 100000) (hO : w.cell? ⟨O, 0, none⟩ = some (.slice A out.length c)) :
    Calls Try.prog 25 #[.int .i64 k, .pointer (some ⟨O, 0, none⟩)] w fun e w' => e = .returned (.bool (!(out.contains k))) ∧ w' = w := by
  have HC := Lib.hid (contains_any out A c k w h hn)
  obtain ⟨τ, hτ⟩ : ∃ τ, out.contains k = τ := ⟨_, rfl⟩
  rw [hτ] at HC ⊢
  clear h hτ
  go_enter Try.func25, Try.ntmps25
  go_wp2_with fail
  refine HC.out.mono ?_
  rintro e w' ⟨rfl, hw⟩
  subst hw
  go_wp2_with fail
  go_ret
  exact ⟨rfl, rfl⟩

/-- The first place from i on whose number is not there. -/
def outF (out : List Int) : List Int → Nat → Int
  | [], _ => -1
  | k :: ks, i => if out.contains k then outF out ks (i + 1) else (i : Int)
theorem outF_iff (out : List Int) : ∀ (ks : List Int) (i : Nat), 0 ≤ outF out ks i ↔ (ks.all fun k => out.contains k) = false
  | [], i => by simp [outF]
  | k :: ks, i => by
    have ih := outF_iff out ks (i + 1)
    rw [List.all_cons]
    by_cases h : out.contains k = true
    · have e : outF out (k :: ks) i = outF out ks (i + 1) := by simp only [outF]; rw [if_pos h]
      rw [e, ih, h, Bool.true_and]
    · have h2 : out.contains k = false := by simpa using h
      have e : outF out (k :: ks) i = (i : Int) := by simp only [outF]; rw [if_neg h]
      rw [e, h2, Bool.false_and]
      simp
theorem outF_all (out : List Int) (ks : List Int) (i : Nat) : decide (outF out ks i ≥ 0) = !(ks.all fun k => out.contains k) := by
  have h := outF_iff out ks i
  cases hb : (ks.all fun k => out.contains k) with
  | true =>
    rw [hb] at h
    exact decide_eq_false (fun e => by have := h.1 e; cases this)
  | false => exact decide_eq_true (h.2 hb)

theorem index37_any (out ks : List Int) (A A2 : Option Addr) (c c2 O : Nat) (w : World) (h : (Kd.int .i64).C w A out.length out) (hn : out.length ≤ 100000) (hO : w.cell? ⟨O, 0, none⟩ = some (.slice A out.length c)) (h2 : (Kd.int .i64).C w A2 ks.length ks) (hk : ks.length ≤ 100000) :
    Calls Try.prog 37 #[.slice A2 ks.length c2, .func (.func 25) #[] #[.pointer (some ⟨O, 0, none⟩)]] w fun e w' => e = .returned (.int .i64 (outF out ks 0)) ∧ w' = w := by
  have HC := Lib.hid (fun k => cl25_any out A c O k w h hn hO)
  have H2 := Lib.hid h2
  clear h h2
  go_enter Try.func37, Try.ntmps37
  go_wp2_with fail
  go_loopw [8] (fun iv wr => ∃ i : Nat, i ≤ ks.length ∧ iv = .int .i64 i ∧ outF out (ks.drop i) i = outF out ks 0 ∧ wr = w) (fun iv _ => ks.length - (intOf iv).toNat)
  case atStart => exact ⟨0, by omega, rfl, rfl, rfl⟩
  case round =>
    obtain ⟨i, hi, rfl, hF, rfl⟩ := hrel
    have HF := Lib.hid hF
    clear hF
    by_cases hlt : i < ks.length
    · obtain ⟨b, o, rfl, hb, q0⟩ := int_cells H2.out i hlt
      have hd : ks.drop i = ks[i]?.getD 0 :: ks.drop (i + 1) := by
        rw [List.drop_eq_getElem_cons hlt]
        simp [hlt]
      obtain ⟨k, hkk⟩ : ∃ k, ks[i]?.getD 0 = k := ⟨_, rfl⟩
      rw [hkk] at q0 hd
      have hF2 := HF.out
      rw [hd] at hF2
      simp only [outF] at hF2
      have HC2 := Lib.hid (HC.out k)
      obtain ⟨τ, hτ⟩ : ∃ τ, out.contains k = τ := ⟨_, rfl⟩
      rw [hτ] at hF2 HC2
      have HF2 := Lib.hid hF2
      clear hF2 hτ hd hkk HF
      go_wp2_with fail
      refine HC2.out.mono ?_
      rintro e w' ⟨rfl, hw⟩
      subst hw
      cases τ
      · go_wp2_with fail
        go_ret
        exact ⟨by have := HF2.out; rw [← this]; rfl, rfl⟩
      · go_wp2_with fail
        go_roundw
        case rel => exact ⟨i + 1, by omega, by go_num, HF2.out, trivial⟩
        case measure => simp [intOf]; omega
    · obtain rfl : i = ks.length := by omega
      go_wp2_with fail
      go_ret
      exact ⟨by have := HF.out; rw [List.drop_length] at this; rw [← this]; rfl, rfl⟩

theorem contains24_any (out ks : List Int) (A A2 : Option Addr) (c c2 O : Nat) (w : World) (h : (Kd.int .i64).C w A out.length out) (hn : out.length ≤ 100000) (hO : w.cell? ⟨O, 0, none⟩ = some (.slice A out.length c)) (h2 : (Kd.int .i64).C w A2 ks.length ks) (hk : ks.length ≤ 100000) :
    Calls Try.prog 24 #[.slice A2 ks.length c2, .func (.func 25) #[] #[.pointer (some ⟨O, 0, none⟩)]] w fun e w' => e = .returned (.bool (!(ks.all fun k => out.contains k))) ∧ w' = w := by
  have HC := Lib.hid (index37_any out ks A A2 c c2 O w h hn hO h2 hk)
  have HA := Lib.hid (outF_all out ks 0)
  obtain ⟨r, hr⟩ : ∃ r, outF out ks 0 = r := ⟨_, rfl⟩
  rw [hr] at HC HA
  rw [← HA.out]
  clear hr h h2 HA
  go_enter Try.func24, Try.ntmps24
  go_wp2_with fail
  refine HC.out.mono ?_
  rintro e w' ⟨rfl, hw⟩
  subst hw
  go_wp2_with fail
  go_ret
  exact ⟨rfl, rfl⟩

/-- May an attribute come next? -/
def nextP (out : List Int) (i : Int) (ks : List Int) : Bool := !(out.contains i) && ks.all fun k => out.contains k

theorem order1_any (l : List S27) (x : S27) (i : Nat) (out ks : List Int) (Al A1 Ao A2 : Option Addr) (cl c1 co c2 Pl O Wt g n cg : Nat) (w : World) (hl : Kd.C k27 w Al l.length l) (hll : l.length ≤ 1000) (hf : findF l x.f0 = i) (hi : i < n)
    (hPl : w.cell? ⟨Pl, 0, none⟩ = some (.slice Al l.length cl)) (hO : w.cell? ⟨O, 0, none⟩ = some (.slice Ao out.length co)) (ho : (Kd.int .i64).C w Ao out.length out) (hn : out.length ≤ 100000)
    (hW : w.cell? ⟨Wt, 0, none⟩ = some (.slice (some ⟨g, 0, none⟩) n cg)) (hg : w.cell? ⟨g, i, none⟩ = some (.slice A2 ks.length c2)) (hk : (Kd.int .i64).C w A2 ks.length ks) (hkn : ks.length ≤ 100000) :
    Calls Try.prog 22 #[.agg #[.string x.f0, .slice A1 x.f1.length c1], .pointer (some ⟨Pl, 0, none⟩), .pointer (some ⟨O, 0, none⟩), .pointer (some ⟨Wt, 0, none⟩)] w fun e w' => e = .returned (.bool (nextP out i ks)) ∧ Below w.heap.size w w' := by
  obtain ⟨t, ex⟩ := x
  dsimp only at hf ⊢
  obtain ⟨W, hWe⟩ : ∃ W, W = w.alloc (Obj.cells #[Value.string t, Value.slice A1 ex.length c1] 27) := ⟨_, rfl⟩
  have hbW : Below w.heap.size w W := by rw [hWe]; exact (Below.refl _ _).alloc (Nat.le_refl _) _
  have k0 : (w.alloc (Obj.cells #[Value.string t, Value.slice A1 ex.length c1] 27)).cell? ⟨w.heap.size, 0, none⟩ = some (.string t) := (bk_cell (bk_new _ _) 0).trans rfl
  have hPl1 := cell_alloc (Obj.cells #[Value.string t, Value.slice A1 ex.length c1] 27) hPl
  have HFi := Lib.hid (find_any l t Al cl W (Kd.C_below hl hbW) hll)
  rw [hf] at HFi
  have HWe := Lib.hid hWe
  have HO := Lib.hid hO
  have Ho := Lib.hid ho
  have HW := Lib.hid hW
  have HG := Lib.hid hg
  have HK := Lib.hid hk
  clear hWe hl hPl hO ho hW hg hk hf
  go_enter Try.func22, Try.ntmps22
  go_wp2_with fail
  rw [← HWe.out]
  refine HFi.out.mono ?_
  rintro e w2 ⟨rfl, hb2⟩
  have hbb := hbW.trans (hb2.mono hbW.size)
  have hO2 := cell_below hbb HO.out
  have hW2 := cell_below hbb HW.out
  have hG2 := cell_below hbb HG.out
  have Ho2 := Kd.C_below Ho.out hbb
  have HK2 := Kd.C_below HK.out hbb
  have HC := Lib.hid (contains_any out Ao co (i : Int) w2 Ho2 hn)
  have HC24 := Lib.hid (contains24_any out ks Ao A2 co c2 O w2 Ho2 hn hO2 HK2 hkn)
  have HN := Lib.hid (show nextP out i ks = (!(out.contains (i : Int)) && ks.all fun k => out.contains k) from rfl)
  obtain ⟨τ, hτ⟩ : ∃ τ, out.contains (i : Int) = τ := ⟨_, rfl⟩
  obtain ⟨σ, hσ⟩ : ∃ σ, (ks.all fun k => out.contains k) = σ := ⟨_, rfl⟩
  rw [hτ] at HC HN
  rw [hσ] at HC24 HN
  obtain ⟨R, hR⟩ : ∃ R, nextP out i ks = R := ⟨_, rfl⟩
  have HBB := Lib.hid hbb
  clear hτ hσ HFi hb2 hbW k0 hPl1 Ho2 HK2 HO HW HG Ho HK hbb
  go_wp2_with fail
  refine HC.out.mono ?_
  rintro e w3 ⟨rfl, hw3⟩
  subst hw3
  cases τ
  · go_wp2_with fail
    refine HC24.out.mono ?_
    rintro e w3 ⟨rfl, hw3⟩
    subst hw3
    go_wp2_with fail
    go_ret
    exact ⟨by rw [HN.out]; simp, HBB.out⟩
  · go_wp2_with fail
    go_ret
    exact ⟨by rw [HN.out]; simp, HBB.out⟩
end Go.Proofs.Ytbmjdkbakeckoaa
namespace Go.Proofs.Ytbmjdkbakeckoaa
open Go Go.RowKit Go.Proofs.YtbmjdkbakeckoaaW.PrintWords Go.Proofs.YtbmjdkbakeckoaaW.PrintLast Go.Proofs.YtbmjdkbakeckoaaW.PrintMore Go.Proofs.Ytbmjdkbakeckoaa.PRefsAll
set_option maxRecDepth 100000
set_option linter.unusedSimpArgs false
set_option linter.unusedVariables false
set_option maxHeartbeats 4000000

/-- Does each attribute stand where its name is first found, from a place on? -/
def namesG (l : List S27) : List S27 → Nat → Bool
  | [], _ => true
  | x :: xs, i => findF l x.f0 == (i : Int) && namesG l xs (i + 1)
def treesP (l : List S27) : Bool := l.all fun x => treeP x.f1
/-- What each waits for; none: a name means none. -/
def waitsG (l : List S27) : List S27 → List (List Int) → Option (List (List Int))
  | [], ws => some ws
  | x :: xs, ws => match needF l (ofF x.f1) [] with
    | none => none
    | some ks => waitsG l xs (ws ++ [ks])
/-- The place that comes next. -/
def stepF (l : List S27) (ws : List (List Int)) (out : List Int) : Int := idxF (fun x => nextP out (findF l x.f0) (ws.getD (findF l x.f0).toNat [])) l 0
def loopF (l : List S27) (ws : List (List Int)) : Nat → List Int → Option (List Int)
  | 0, out => some out
  | d + 1, out => if stepF l ws out < 0 then none else loopF l ws d (out ++ [stepF l ws out])
/-- The order, and the error's number. -/
def orderF (l : List S27) : List Int × Int :=
  if namesG l l 0 then
    if treesP l then
      match waitsG l l [] with
      | none => ([], 2)
      | some ws => match loopF l ws l.length [] with
        | none => ([], 10)
        | some out => (out, 0)
    else ([], 1)
  else ([], 3)

def Fit2 (l : List S27) : Prop := l.length ≤ 100 ∧ ∀ x ∈ l, Fits x.f1

/-- The blocks of a call of Order: its list's box, its result's. -/
def Fr (n0 : Nat) (w wr : World) (sl : Value) : Prop := Below n0 w wr ∧ wr.heap[n0]? = some (.cells #[sl] 23 (0, 0)) ∧ wr.heap[n0 + 1]? = some (.cells #[.slice none 0 0] 28 (0, 0))
theorem Fr.below {n0 : Nat} {w wr w2 : World} {sl : Value} (h : Fr n0 w wr sl) (hb : Below wr.heap.size wr w2) : Fr n0 w w2 sl :=
  ⟨h.1.trans (hb.mono (Nat.le_of_lt (bk_lt h.2.1))), bk_below h.2.1 hb, bk_below h.2.2 hb⟩
theorem Fr.set {n0 g j : Nat} {w wr : World} {sl : Value} (h : Fr n0 w wr sl) (hg : n0 + 1 < g) (u : Value) : Fr n0 w (wr.setCell ⟨g, j, none⟩ u) sl :=
  ⟨h.1.setCell (p := ⟨g, j, none⟩) (by simp only; omega) u, (Below.heap_setCell wr ⟨g, j, none⟩ u n0 (by simp only; omega)).trans h.2.1, (Below.heap_setCell wr ⟨g, j, none⟩ u (n0 + 1) (by simp only; omega)).trans h.2.2⟩
theorem info28 : (Try.prog.info? 28).map (fun i => (i.zero, i.size, i.bytes)) = some (some (.slice none 0 0), 1, 24) := by kernel_rfl
theorem bk_setAt {w : World} {g : Nat} {t : TypeId} {cs : Array Value} (h : w.heap[g]? = some (.cells cs t (0, 0))) (i : Nat) (u : Value) : (w.setCell ⟨g, i, none⟩ u).heap[g]? = some (.cells (cs.setIfInBounds i u) t (0, 0)) := by
  simp [World.setCell, Array.getElem?_modify, h]

/-- What each waits for, where it lies. -/
def Wts (W : World) (g n : Nat) (ws : List (List Int)) : Prop :=
  ∃ cur, W.heap[g]? = some (.cells cur 28 (0, 0)) ∧ cur.size = n ∧ (∀ (j : Nat) u, cur[j]? = some u → ∃ A k c, u = .slice A k c) ∧
    ∀ (j : Nat) (ks : List Int), ws[j]? = some ks → ks.length ≤ 100000 ∧ ∃ A c, cur[j]? = some (.slice A ks.length c) ∧ (Kd.int .i64).C W A ks.length ks
theorem Wts.start {W : World} {g n : Nat} (h : W.heap[g]? = some (.cells (madeCells #[.slice none 0 0] n) 28 (0, 0))) : Wts W g n [] := by
  refine ⟨_, h, size_madeCells _ _, fun j u hu => ?_, fun j ks hk => by simp at hk⟩
  have h2 : (madeCells #[Value.slice none 0 0] n).toList[j]? = some u := by rw [Array.getElem?_toList]; exact hu
  rw [toList_madeCells_one] at h2
  rw [List.getElem?_replicate] at h2
  split at h2
  · cases h2; exact ⟨none, 0, 0, rfl⟩
  · cases h2
theorem Wts.noint {W : World} {g n : Nat} {ws : List (List Int)} (h : Wts W g n ws) : ∀ j z, W.cell? ⟨g, j, none⟩ ≠ some (.int .i64 z) := by
  obtain ⟨cur, h1, h2, h3, h4⟩ := h
  intro j z e
  rw [bk_cell h1] at e
  obtain ⟨A, k, c, e2⟩ := h3 j _ e
  cases e2
theorem Wts.same {W W' : World} {g n O : Nat} {ws : List (List Int)} (h : Wts W g n ws) (hgO : g ≠ O) (hO : ∀ j z, W.cell? ⟨O, j, none⟩ ≠ some (.int .i64 z)) (hs : ∀ b, b < W.heap.size → b ≠ O → W'.heap[b]? = W.heap[b]?) : Wts W' g n ws := by
  obtain ⟨cur, h1, h2, h3, h4⟩ := h
  refine ⟨cur, (hs g (bk_lt h1) hgO).trans h1, h2, h3, fun j ks hk => ?_⟩
  obtain ⟨h5, A, c, h6, h7⟩ := h4 j ks hk
  exact ⟨h5, A, c, h6, C_same h7 hO hs⟩
theorem Wts.below {W W' : World} {g n : Nat} {ws : List (List Int)} (h : Wts W g n ws) (hb : Below W.heap.size W W') : Wts W' g n ws := by
  obtain ⟨cur, h1, h2, h3, h4⟩ := h
  refine ⟨cur, bk_below h1 hb, h2, h3, fun j ks hk => ?_⟩
  obtain ⟨h5, A, c, h6, h7⟩ := h4 j ks hk
  exact ⟨h5, A, c, h6, Kd.C_below h7 hb⟩
theorem Wts.put {W : World} {g n c : Nat} {A : Option Addr} {ws : List (List Int)} {ks : List Int} (h : Wts W g n ws) (hi : ws.length < n) (hk : ks.length ≤ 100000) (hC : (Kd.int .i64).C W A ks.length ks) :
    Wts (W.setCell ⟨g, ws.length, none⟩ (.slice A ks.length c)) g n (ws ++ [ks]) := by
  have hno := h.noint
  obtain ⟨cur, h1, h2, h3, h4⟩ := h
  have hs : ∀ b, b < W.heap.size → b ≠ g → (W.setCell ⟨g, ws.length, none⟩ (.slice A ks.length c)).heap[b]? = W.heap[b]? := fun b _ hb => Below.heap_setCell W ⟨g, ws.length, none⟩ _ b hb
  refine ⟨_, bk_setAt h1 ws.length _, by simp [h2], fun j u hu => ?_, fun j ks' hk' => ?_⟩
  · rw [Array.getElem?_setIfInBounds] at hu
    split at hu
    · split at hu
      · cases hu; exact ⟨_, _, _, rfl⟩
      · cases hu
    · exact h3 j u hu
  · rw [Array.getElem?_setIfInBounds]
    by_cases hj : j < ws.length
    · rw [List.getElem?_append_left hj] at hk'
      obtain ⟨h5, A', c', h6, h7⟩ := h4 j ks' hk'
      rw [if_neg (by omega)]
      exact ⟨h5, A', c', h6, C_same h7 hno hs⟩
    · rw [List.getElem?_append_right (by omega)] at hk'
      obtain rfl : j = ws.length := by
        have := (List.getElem?_eq_some_iff.1 hk').1
        simp at this
        omega
      rw [Nat.sub_self] at hk'
      obtain rfl : ks = ks' := by simpa using hk'
      rw [if_pos rfl, if_pos (by omega)]
      exact ⟨hk, A, c, rfl, C_same hC hno hs⟩
theorem needF_len (l : List S27) : ∀ (rs : List ByteArray) (out o : List Int), needF l rs out = some o → o.length ≤ out.length + rs.length
  | [], out, o, h => by simp only [needF, Option.some.injEq] at h; subst h; simp
  | s :: rs, out, o, h => by
    simp only [needF] at h
    rw [List.length_cons]
    split at h
    · have := needF_len l rs out o h; omega
    · split at h
      · cases h
      · have := needF_len l rs _ o h
        rw [List.length_append, List.length_singleton] at this
        omega
theorem namesG_at (l : List S27) : ∀ (xs : List S27) (i : Nat), namesG l xs i = true → ∀ j x, xs[j]? = some x → findF l x.f0 = ((i + j : Nat) : Int)
  | [], i, _, j, x, hx => by simp at hx
  | y :: xs, i, h, j, x, hx => by
    simp only [namesG, Bool.and_eq_true, beq_iff_eq] at h
    cases j with
    | zero =>
      obtain rfl : y = x := by simpa using hx
      exact h.1
    | succ j =>
      have := namesG_at l xs (i + 1) h.2 j x (by simpa using hx)
      rw [this]
      congr 1
      omega
/-- How long the list is that a cell holds. -/
def lenAt (w : World) (O : Nat) : Nat := match w.cell? ⟨O, 0, none⟩ with
  | some (.slice _ k _) => k
  | _ => 0
theorem lenAt_eq {w : World} {O k c : Nat} {A : Option Addr} (h : w.cell? ⟨O, 0, none⟩ = some (.slice A k c)) : lenAt w O = k := by unfold lenAt; rw [h]

theorem order_any (l : List S27) (A : Option Addr) (c : Nat) (m : Int) (w : World) (hm : w.cell? ⟨0, 0, none⟩ = some (.int .i64 m)) (hl : Kd.C k27 w A l.length l) (hf : Fit2 l) :
    Calls Try.prog 9 #[.slice A l.length c] w fun e w' => (∃ A c, e = .returned (.tuple #[.slice A (orderF l).1.length c, .int .i64 (orderF l).2]) ∧ (orderF l).1.length ≤ c ∧ (Kd.int .i64).C w' A (orderF l).1.length (orderF l).1) ∧ Below w.heap.size w w' := by
  have HL := Lib.hid hl
  have HM := Lib.hid hm
  have HF := Lib.hid hf.2
  have hlen := hf.1
  have hn0 : 0 < w.heap.size := World.block_lt_of_cell? w _ hm
  obtain ⟨R, hR⟩ : ∃ R, orderF l = R := ⟨_, rfl⟩
  rw [hR]
  have HR := Lib.hid hR
  obtain ⟨n0, hbase⟩ : ∃ b, w.heap.size = b := ⟨_, rfl⟩
  have HB0 := Lib.hid hbase
  have hFr : Fr n0 w ((w.alloc (Obj.cells #[Value.slice A l.length c] 23)).alloc (Obj.cells #[Value.slice none 0 0] 28)) (.slice A l.length c) := by
    subst hbase
    refine ⟨((Below.refl _ _).alloc (Nat.le_refl _) _).alloc (by simp) _, bk_alloc (bk_new _ _) _, ?_⟩
    have := bk_new (w.alloc (Obj.cells #[Value.slice A l.length c] 23)) (Obj.cells #[Value.slice none 0 0] 28)
    rw [World.size_alloc] at this
    exact this
  obtain ⟨W, hW⟩ : ∃ W, W = (w.alloc (Obj.cells #[Value.slice A l.length c] 23)).alloc (Obj.cells #[Value.slice none 0 0] 28) := ⟨_, rfl⟩
  rw [← hW] at hFr
  have HW := Lib.hid hW
  have HFr := Lib.hid hFr
  have k0 : ((w.alloc (Obj.cells #[Value.slice A l.length c] 23)).alloc (Obj.cells #[Value.slice none 0 0] 28)).cell? ⟨w.heap.size, 0, none⟩ = some (.slice A l.length c) := by
    rw [← hW, hbase]; exact (bk_cell hFr.2.1 0).trans rfl
  rw [hbase] at k0 hn0 ⊢
  clear hl hm hf hR hW hFr
  go_enter Try.func9, Try.ntmps9
  go_wp2_with fail
  rw [← HW.out]
  clear k0
  go_loopw [15] (fun iv wr => ∃ i : Nat, i ≤ l.length ∧ iv = .int .i64 i ∧ namesG l (l.drop i) i = namesG l l 0 ∧ Fr n0 w wr (.slice A l.length c)) (fun iv _ => l.length - (intOf iv).toNat)
  case atStart => exact ⟨0, by omega, rfl, rfl, HFr.out⟩
  case round =>
    obtain ⟨i, hi, rfl, hG, hFr⟩ := hrel
    have HG := Lib.hid hG
    have HFi := Lib.hid hFr
    clear hG hFr
    have hx0 : wr.cell? ⟨n0, 0, none⟩ = some (.slice A l.length c) := (bk_cell HFi.out.2.1 0).trans rfl
    by_cases hlt : i < l.length
    · obtain ⟨β, o, A1, c1, rfl, hβ, q0, q1, h2, h3⟩ := attr_cells HL.out i hlt
      rw [HB0.out] at hβ
      have q0 := (HFi.out.1.cell (p := ⟨β, o + i * 2, none⟩) hβ).trans q0
      have q1 := (HFi.out.1.cell (p := ⟨β, o + i * 2 + 1, none⟩) hβ).trans q1
      have hrd := rd27 l i hlt
      have hd : l.drop i = rd_T27 l i :: l.drop (i + 1) := by
        rw [List.drop_eq_getElem_cons hlt]
        congr 1
        exact Option.some.inj ((List.getElem?_eq_getElem hlt).symm.trans hrd)
      have hG2 := HG.out
      rw [hd] at hG2
      simp only [namesG] at hG2
      obtain ⟨x, hx⟩ : ∃ x, rd_T27 l i = x := ⟨_, rfl⟩
      rw [hx] at q0 q1 hG2
      obtain ⟨t, ex⟩ := x
      dsimp only at q0 q1 hG2
      obtain ⟨Wi, hWi⟩ : ∃ Wi, Wi = wr.alloc (Obj.cells #[Value.string t, Value.slice A1 ex.length c1] 27) := ⟨_, rfl⟩
      have hbi : Below wr.heap.size wr Wi := by rw [hWi]; exact (Below.refl _ _).alloc (Nat.le_refl _) _
      have hFw := HFi.out.below hbi
      have k5 : Wi.heap[wr.heap.size]? = some (.cells #[Value.string t, Value.slice A1 ex.length c1] 27) := by rw [hWi]; exact bk_new _ _
      have hx1 := cell_alloc (Obj.cells #[Value.string t, Value.slice A1 ex.length c1] 27) hx0
      have HWi := Lib.hid hWi
      have HFd := Lib.hid (find_any l t (some ⟨β, o, none⟩) c Wi (Kd.C_below HL.out (by rw [HB0.out]; exact hFw.1)) (by omega))
      have HFw := Lib.hid hFw
      obtain ⟨kk, hkk⟩ : ∃ kk, findF l t = kk := ⟨_, rfl⟩
      rw [hkk] at hG2 HFd
      have HG2 := Lib.hid hG2
      clear hd hrd hx h2 h3 hG2 hkk hWi hbi hFw k5 HG
      go_wp2_with fail
      rw [← HWi.out]
      refine HFd.out.mono ?_
      rintro e w2 ⟨rfl, hb2⟩
      have hF2 := HFw.out.below hb2
      have HF2 := Lib.hid hF2
      clear hF2 hb2 HFd hx1
      by_cases hki : kk = (i : Int)
      · have hki2 : (kk != (i : Int)) = false := by simp [hki]
        have hnm : namesG l (l.drop (i + 1)) (i + 1) = namesG l l 0 := by
          have := HG2.out
          rw [show (kk == (i : Int)) = true by simp [hki], Bool.true_and] at this
          exact this
        have HNm := Lib.hid hnm
        clear hnm HG2 hki
        go_wp2_with fail
        go_roundw
        case rel => exact ⟨i + 1, by omega, by go_num, HNm.out, HF2.out⟩
        case measure => simp [intOf]; omega
      · have hki2 : (kk != (i : Int)) = true := by simp [hki]
        have hnm : R = ([], 3) := by
          have h1 := HG2.out
          rw [show (kk == (i : Int)) = false by simp [hki], Bool.false_and] at h1
          rw [← HR.out]
          unfold orderF
          rw [← h1]
          rfl
        have HRn := Lib.hid hnm
        clear hnm
        have d0 : w2.cell? ⟨n0 + 1, 0, none⟩ = some (.slice none 0 0) := (bk_cell HF2.out.2.2 0).trans rfl
        have f0 : w2.frozen? ⟨n0 + 1, 0, none⟩ = false := bk_frozen HF2.out.2.2 0
        clear HG2 hki
        go_wp2_with fail
        refine bodyPost_ret (v := .tuple #[.slice none 0 0, .int .i64 3]) (by simp [results, Try.results9, go_sem, d0]) rfl ?_
        rw [HRn.out]
        exact ⟨⟨none, 0, rfl, Nat.le_refl _, Kd.C_nil _ _⟩, HF2.out.1.setCell (p := ⟨n0 + 1, 0, none⟩) (by simp) _⟩
    · obtain rfl : i = l.length := by omega
      have hnames : namesG l l 0 = true := by
        have := HG.out
        rw [List.drop_length] at this
        exact this.symm
      have HNames := Lib.hid hnames
      clear hnames HG
      go_wp2_with fail
      go_loopw [29] (fun iv wr => ∃ i : Nat, i ≤ l.length ∧ iv = .int .i64 i ∧ ((l.drop i).all fun x => treeP x.f1) = treesP l ∧ Fr n0 w wr (.slice A l.length c)) (fun iv _ => l.length - (intOf iv).toNat)
      case atStart => exact ⟨0, by omega, rfl, rfl, HFi.out⟩
      case round =>
        obtain ⟨i, hi, rfl, hG, hFr⟩ := hrel
        have HG := Lib.hid hG
        have HFi := Lib.hid hFr
        clear hG hFr hx0
        have hx0 : wr.cell? ⟨n0, 0, none⟩ = some (.slice A l.length c) := (bk_cell HFi.out.2.1 0).trans rfl
        by_cases hlt : i < l.length
        · obtain ⟨β, o, A1, c1, rfl, hβ, q0, q1, h2, h3⟩ := attr_cells HL.out i hlt
          have h3 := Kd.C_below h3 (by rw [HB0.out]; exact HFi.out.1)
          rw [HB0.out] at hβ
          have q0 := (HFi.out.1.cell (p := ⟨β, o + i * 2, none⟩) hβ).trans q0
          have q1 := (HFi.out.1.cell (p := ⟨β, o + i * 2 + 1, none⟩) hβ).trans q1
          have hrd := rd27 l i hlt
          have hd : l.drop i = rd_T27 l i :: l.drop (i + 1) := by
            rw [List.drop_eq_getElem_cons hlt]
            congr 1
            exact Option.some.inj ((List.getElem?_eq_getElem hlt).symm.trans hrd)
          have hfx := HF.out _ (List.mem_of_getElem? hrd)
          have hG2 := HG.out
          rw [hd, List.all_cons] at hG2
          obtain ⟨x, hx⟩ : ∃ x, rd_T27 l i = x := ⟨_, rfl⟩
          rw [hx] at q0 q1 hG2 hfx h3
          obtain ⟨t, ex⟩ := x
          dsimp only at q0 q1 hG2 hfx h3
          obtain ⟨Wi, hWi⟩ : ∃ Wi, Wi = wr.alloc (Obj.cells #[Value.string t, Value.slice A1 ex.length c1] 27) := ⟨_, rfl⟩
          have hbi : Below wr.heap.size wr Wi := by rw [hWi]; exact (Below.refl _ _).alloc (Nat.le_refl _) _
          have hFw := HFi.out.below hbi
          have hmi : Wi.cell? ⟨0, 0, none⟩ = some (.int .i64 m) := (hFw.1.cell (p := ⟨0, 0, none⟩) hn0).trans HM.out
          have HTr := Lib.hid (tree_is ex A1 c1 m Wi hmi hfx (Kd.C_below h3 hbi))
          have HWi := Lib.hid hWi
          have HFw := Lib.hid hFw
          obtain ⟨τ, hτ⟩ : ∃ τ, treeP ex = τ := ⟨_, rfl⟩
          rw [hτ] at hG2 HTr
          have HG2 := Lib.hid hG2
          clear hd hrd hx h2 h3 hG2 hτ hWi hbi hFw HG hmi hfx
          go_wp2_with fail
          rw [← HWi.out]
          refine HTr.out.mono ?_
          rintro e w2 ⟨rfl, hb2⟩
          have hF2 := HFw.out.below hb2
          have HF2 := Lib.hid hF2
          clear hF2 hb2 HTr
          cases τ
          · have hnm : R = ([], 1) := by
              have h1 := HG2.out
              rw [Bool.false_and] at h1
              rw [← HR.out]
              unfold orderF
              rw [HNames.out, ← h1]
              rfl
            have HRn := Lib.hid hnm
            clear hnm
            have d0 : w2.cell? ⟨n0 + 1, 0, none⟩ = some (.slice none 0 0) := (bk_cell HF2.out.2.2 0).trans rfl
            have f0 : w2.frozen? ⟨n0 + 1, 0, none⟩ = false := bk_frozen HF2.out.2.2 0
            clear HG2
            go_wp2_with fail
            refine bodyPost_ret (v := .tuple #[.slice none 0 0, .int .i64 1]) (by simp [results, Try.results9, go_sem, d0]) rfl ?_
            rw [HRn.out]
            exact ⟨⟨none, 0, rfl, Nat.le_refl _, Kd.C_nil _ _⟩, HF2.out.1.setCell (p := ⟨n0 + 1, 0, none⟩) (by simp) _⟩
          · have hnm : ((l.drop (i + 1)).all fun x => treeP x.f1) = treesP l := by
              have := HG2.out
              rw [Bool.true_and] at this
              exact this
            have HNm := Lib.hid hnm
            clear hnm HG2
            go_wp2_with fail
            go_roundw
            case rel => exact ⟨i + 1, by omega, by go_num, HNm.out, HF2.out⟩
            case measure => simp [intOf]; omega
        · obtain rfl : i = l.length := by omega
          have htrees : treesP l = true := by
            have := HG.out
            rw [List.drop_length] at this
            exact this.symm
          have HTrees := Lib.hid htrees
          clear htrees HG
          obtain ⟨ti, hti, htz, hts, htb⟩ := info_parts info28
          have hmk := run_make (P := Try.prog) wr 53 28 ti (.slice none 0 0) Try.underlying53 hti htz .i64 .i64 (l.length : Int) (l.length : Int) (by omega) (by omega) (by rw [htb]; omega) (by omega)
          rw [hts, Nat.mul_one, show ((l.length : Int)).toNat = l.length by omega, show (Value.slice none 0 0).cells = #[Value.slice none 0 0] from rfl] at hmk
          obtain ⟨W3, hW3⟩ : ∃ W3, W3 = (wr.alloc (Obj.cells (madeCells #[Value.slice none 0 0] l.length) 28)).alloc (Obj.cells #[Value.slice (some ⟨wr.heap.size, 0, none⟩) l.length l.length] 53) := ⟨_, rfl⟩
          have hbw3 : Below wr.heap.size wr W3 := by rw [hW3]; exact ((Below.refl _ _).alloc (Nat.le_refl _) _).alloc (by simp) _
          have hF3 := HFi.out.below hbw3
          have hg3 : Wts W3 wr.heap.size l.length [] := by
            refine Wts.start ?_
            rw [hW3]; exact bk_alloc (bk_new _ _) _
          have hq3 : W3.heap[wr.heap.size + 1]? = some (.cells #[Value.slice (some ⟨wr.heap.size, 0, none⟩) l.length l.length] 53) := by
            rw [hW3]
            have := bk_new (wr.alloc (Obj.cells (madeCells #[Value.slice none 0 0] l.length) 28)) (Obj.cells #[Value.slice (some ⟨wr.heap.size, 0, none⟩) l.length l.length] 53)
            rw [World.size_alloc] at this
            exact this
          have hng : n0 + 1 < wr.heap.size := bk_lt HFi.out.2.2
          have hx3 := cell_alloc (Obj.cells #[Value.slice (some ⟨wr.heap.size, 0, none⟩) l.length l.length] 53) (cell_alloc (Obj.cells (madeCells #[Value.slice none 0 0] l.length) 28) hx0)
          obtain ⟨g, hgg⟩ : ∃ g, wr.heap.size = g := ⟨_, rfl⟩
          rw [hgg] at hmk hg3 hq3 hng hx3 hW3
          have HW3 := Lib.hid hW3
          have HF3 := Lib.hid hF3
          have HG3 := Lib.hid hg3
          have HQ3 := Lib.hid hq3
          have HWn := Lib.hid (rfl : waitsG l l [] = waitsG l l [])
          clear hW3 hbw3 hF3 hg3 hq3 hti htz hts htb
          go_wp2_with fail
          rw [← HW3.out]
          go_loopw [43] (fun iv wr => ∃ ws : List (List Int), ws.length ≤ l.length ∧ iv = .int .i64 ws.length ∧ waitsG l (l.drop ws.length) ws = waitsG l l [] ∧ Fr n0 w wr (.slice A l.length c) ∧ Wts wr g l.length ws ∧ wr.heap[g + 1]? = some (.cells #[.slice (some ⟨g, 0, none⟩) l.length l.length] 53 (0, 0))) (fun iv _ => l.length - (intOf iv).toNat)
          case atStart => exact ⟨[], by simp, rfl, rfl, HF3.out, HG3.out, HQ3.out⟩
          case round =>
            obtain ⟨ws, hi, rfl, hG, hFr, hWt, hq⟩ := hrel
            have HG := Lib.hid hG
            have HFi := Lib.hid hFr
            have HWt := Lib.hid hWt
            have HQ := Lib.hid hq
            clear hG hFr hWt hq hx0 hx3 hmk
            have hx0 : wr.cell? ⟨n0, 0, none⟩ = some (.slice A l.length c) := (bk_cell HFi.out.2.1 0).trans rfl
            by_cases hlt : ws.length < l.length
            · have hrd := rd27 l ws.length hlt
              have hmem := List.mem_of_getElem? hrd
              have hd : l.drop ws.length = rd_T27 l ws.length :: l.drop (ws.length + 1) := by
                rw [List.drop_eq_getElem_cons hlt]
                congr 1
                exact Option.some.inj ((List.getElem?_eq_getElem hlt).symm.trans hrd)
              have hG2 := HG.out
              rw [hd] at hG2
              simp only [waitsG] at hG2
              have hmi : wr.cell? ⟨0, 0, none⟩ = some (.int .i64 m) := (HFi.out.1.cell (p := ⟨0, 0, none⟩) hn0).trans HM.out
              have hfx := HF.out _ hmem
              have hne := needs_any l ws.length m A c wr hmi (Kd.C_below HL.out (by rw [HB0.out]; exact HFi.out.1)) (by omega) hlt hfx
              have hrl := ofF_len _ hfx
              have hnl := needF_len l (ofF (rd_T27 l ws.length).f1) []
              obtain ⟨N, hN⟩ : ∃ N, needF l (ofF (rd_T27 l ws.length).f1) [] = N := ⟨_, rfl⟩
              rw [hN] at hne hG2 hnl
              have HNe := Lib.hid hne
              have HG2 := Lib.hid hG2
              have HNl := Lib.hid (show ∀ o, N = some o → o.length ≤ 100000 from fun o ho => by have := hnl o ho; simp only [List.length_nil] at this; omega)
              clear hd hrd hG2 hmi hfx hN hnl hrl hne hmem HG
              obtain ⟨i, hii⟩ : ∃ i, ws.length = i := ⟨_, rfl⟩
              rw [hii] at hlt HNe HG2 ⊢
              have HI := Lib.hid hii
              clear hii hi
              go_wp2_with fail
              refine HNe.out.mono ?_
              rintro e w2 ⟨hpost, hb2⟩
              clear HNe
              have hF2 := HFi.out.below hb2
              have HF2 := Lib.hid hF2
              have hW2 := HWt.out.below hb2
              have hq2 := bk_below HQ.out hb2
              have hq2c : w2.cell? ⟨g + 1, 0, none⟩ = some (.slice (some ⟨g, 0, none⟩) l.length l.length) := (bk_cell hq2 0).trans rfl
              cases N with
              | none =>
                subst hpost
                have hnm : R = ([], 2) := by
                  have h1 := HG2.out
                  rw [← HR.out]
                  unfold orderF
                  rw [HNames.out, HTrees.out, ← h1]
                  rfl
                have HRn := Lib.hid hnm
                clear hnm
                have d0 : w2.cell? ⟨n0 + 1, 0, none⟩ = some (.slice none 0 0) := (bk_cell HF2.out.2.2 0).trans rfl
                have f0 : w2.frozen? ⟨n0 + 1, 0, none⟩ = false := bk_frozen HF2.out.2.2 0
                clear HG2 hF2 hW2 hq2 hb2
                go_wp2_with fail
                refine bodyPost_ret (v := .tuple #[.slice none 0 0, .int .i64 2]) (by simp [results, Try.results9, go_sem, d0]) rfl ?_
                rw [HRn.out]
                exact ⟨⟨none, 0, rfl, Nat.le_refl _, Kd.C_nil _ _⟩, HF2.out.1.setCell (p := ⟨n0 + 1, 0, none⟩) (by simp) _⟩
              | some ks =>
                obtain ⟨A4, c4, rfl, hle4, hC4⟩ := hpost
                have hkl := HNl.out ks rfl
                obtain ⟨cur, hcur, hcs, hcsl, _⟩ := hW2
                obtain ⟨u, hu⟩ : ∃ u, cur[i]? = some u := ⟨cur[i]'(by omega), Array.getElem?_eq_getElem (by omega)⟩
                obtain ⟨A5, k5, c5, rfl⟩ := hcsl i u hu
                have hgc : w2.cell? ⟨g, i, none⟩ = some (.slice A5 k5 c5) := (bk_cell hcur i).trans hu
                have hgf : w2.frozen? ⟨g, i, none⟩ = false := bk_frozen hcur i
                have hput := (HWt.out.below hb2).put (c := c4) (by rw [HI.out]; exact hlt) hkl hC4
                rw [HI.out] at hput
                have HPut := Lib.hid hput
                have HQs := Lib.hid ((Below.heap_setCell w2 ⟨g, i, none⟩ (.slice A4 ks.length c4) (g + 1) (by simp)).trans hq2)
                have HFs := Lib.hid (HF2.out.set (j := i) hng (.slice A4 ks.length c4))
                have HGs := Lib.hid (show waitsG l (l.drop (i + 1)) (ws ++ [ks]) = waitsG l l [] from HG2.out)
                have HI2 := Lib.hid (show (ws ++ [ks]).length = i + 1 by rw [List.length_append, List.length_singleton, HI.out])
                clear hF2 hcur hcs hcsl hu hput hq2 hb2 hC4 HG2 HNl
                go_wp2_with fail
                go_roundw
                case rel => exact ⟨ws ++ [ks], by rw [HI2.out]; omega, by rw [HI2.out]; go_num, by rw [HI2.out]; exact HGs.out, HFs.out, HPut.out, HQs.out⟩
                case measure => simp [intOf]; omega
            · have hwl : ws.length = l.length := by omega
              have hwt : waitsG l l [] = some ws := by
                have := HG.out
                rw [hwl, List.drop_length] at this
                exact this.symm
              have HWs := Lib.hid hwt
              have hq2c : wr.cell? ⟨g + 1, 0, none⟩ = some (.slice (some ⟨g, 0, none⟩) l.length l.length) := (bk_cell HQ.out 0).trans rfl
              have hOc : wr.cell? ⟨n0 + 1, 0, none⟩ = some (.slice none 0 0) := (bk_cell HFi.out.2.2 0).trans rfl
              rw [hwl]
              have HWl := Lib.hid hwl
              clear hwt HG hi hlt hwl
              obtain ⟨w3, hw3⟩ : ∃ w3, wr = w3 := ⟨_, rfl⟩
              rw [hw3] at HFi HWt HQ hq2c hOc hx0 ⊢
              obtain ⟨b3, hb3⟩ : ∃ b3, w3.heap.size = b3 := ⟨_, rfl⟩
              have hgb : g + 1 < b3 := by rw [← hb3]; exact bk_lt HQ.out
              have HB3 := Lib.hid hb3
              clear hw3 hb3
              have hw4 : ∃ w4, w4 = w3 := ⟨_, rfl⟩
              go_wp2_with fail
              go_loopw [12] (fun _ wr => ∃ (out : List Int) (vo : Value), out.length ≤ l.length ∧ loopF l ws (l.length - out.length) out = loopF l ws l.length [] ∧ wr.heap[n0 + 1]? = some (.cells #[vo] 28 (0, 0)) ∧ (Kd.int .i64).R 3 wr b3 (fun k => b3 ≤ k) vo out ∧ Below n0 w wr ∧ b3 ≤ wr.heap.size ∧ ∀ b, b < b3 → b ≠ n0 + 1 → wr.heap[b]? = w3.heap[b]?) (fun _ wr => l.length - lenAt wr (n0 + 1))
              case atStart => exact ⟨[], _, by simp, rfl, HFi.out.2.2, Kd.R_nil _ _ _ _ _, HFi.out.1, by rw [HB3.out]; exact Nat.le_refl _, fun _ _ _ => rfl⟩
              case round =>
                obtain ⟨out, vo, hol, hLp, hO, hR, hB, hsz, hSm⟩ := hrel
                obtain ⟨Ao, co, rfl, hoc, hoC⟩ := Kd.R_reads hR
                have HLp := Lib.hid hLp
                have HO := Lib.hid hO
                have HR4 := Lib.hid hR
                have HB := Lib.hid hB
                have HSm := Lib.hid hSm
                have HoC := Lib.hid hoC
                have hPc : wr.cell? ⟨n0, 0, none⟩ = some (.slice A l.length c) := by
                  refine (bk_cell ((hSm n0 (by omega) (by omega)).trans HFi.out.2.1) 0).trans rfl
                have hOc4 : wr.cell? ⟨n0 + 1, 0, none⟩ = some (.slice Ao out.length co) := (bk_cell hO 0).trans rfl
                have hOf4 : wr.frozen? ⟨n0 + 1, 0, none⟩ = false := bk_frozen hO 0
                have hQc4 : wr.cell? ⟨g + 1, 0, none⟩ = some (.slice (some ⟨g, 0, none⟩) l.length l.length) :=
                  (bk_cell ((hSm (g + 1) (by omega) (by omega)).trans HQ.out) 0).trans rfl
                have hWt4 : Wts wr g l.length ws := HWt.out.same (O := n0 + 1) (by omega) (fun j z e => by
                  rw [bk_cell HFi.out.2.2] at e
                  cases j with
                  | zero => cases e
                  | succ j => simp at e) (fun b hb hbo => hSm b (by rw [← HB3.out]; exact hb) hbo)
                have HLen := Lib.hid (lenAt_eq hOc4)
                have hm4 : out.length < l.length ∨ out.length = l.length := by omega
                clear hLp hO hR hB hSm hoC hx0 hq2c hOc hw4
                rcases hm4 with hlt | heq
                · have hix := indexf3_any (fun x => nextP out (findF l x.f0) (ws.getD (findF l x.f0).toNat [])) (some ⟨n0, 0, none⟩) (some ⟨n0 + 1, 0, none⟩) (some ⟨g + 1, 0, none⟩) l A c wr (Kd.C_below HL.out (by rw [HB0.out]; exact HB.out)) (by omega) (fun x hx A1 c1 W2 hbW => by
                    obtain ⟨j, hj⟩ := List.getElem?_of_mem hx
                    have hjl : j < l.length := (List.getElem?_eq_some_iff.1 hj).1
                    have hfj : findF l x.f0 = (j : Int) := by
                      have := namesG_at l l 0 HNames.out j x hj
                      rw [this]; congr 1; omega
                    obtain ⟨ks, hks⟩ : ∃ ks, ws[j]? = some ks := ⟨ws[j]'(by rw [HWl.out]; exact hjl), List.getElem?_eq_getElem (by rw [HWl.out]; exact hjl)⟩
                    obtain ⟨cur, hc1, hc2, hc3, hc4⟩ := hWt4.below hbW
                    obtain ⟨hkl, A2, c2, hc5, hc6⟩ := hc4 j ks hks
                    have := order1_any l x j out ks A A1 Ao A2 c c1 co c2 n0 (n0 + 1) (g + 1) g l.length l.length W2 (Kd.C_below HL.out (by rw [HB0.out]; exact HB.out.trans (hbW.mono (by omega)))) (by omega) hfj hjl (cell_below hbW hPc) (cell_below hbW hOc4) (Kd.C_below HoC.out hbW) (by omega) (cell_below hbW hQc4) ((bk_cell hc1 j).trans hc5) hc6 hkl
                    rw [hfj]
                    have e : ws.getD ((j : Int)).toNat [] = ks := by
                      rw [List.getD_eq_getElem?_getD, show ((j : Int)).toNat = j by omega, hks]; rfl
                    rw [e]
                    exact this)
                  have HIx := Lib.hid hix
                  obtain ⟨kk, hkk⟩ : ∃ kk, stepF l ws out = kk := ⟨_, rfl⟩
                  have hkk2 : idxF (fun x => nextP out (findF l x.f0) (ws.getD (findF l x.f0).toNat [])) l 0 = kk := hkk
                  rw [hkk2] at HIx
                  have hL2 := HLp.out
                  rw [show l.length - out.length = (l.length - (out.length + 1)) + 1 by omega] at hL2
                  simp only [loopF, hkk] at hL2
                  have HL2 := Lib.hid hL2
                  clear hix hkk hkk2 hL2 HLp hWt4
                  go_wp2_with fail
                  refine HIx.out.mono ?_
                  rintro e w5 ⟨rfl, hb5⟩
                  have hO5 := bk_below HO.out hb5
                  have hOc5 : w5.cell? ⟨n0 + 1, 0, none⟩ = some (.slice Ao out.length co) := (bk_cell hO5 0).trans rfl
                  have hOf5 : w5.frozen? ⟨n0 + 1, 0, none⟩ = false := bk_frozen hO5 0
                  have hsz5 : b3 ≤ w5.heap.size := Nat.le_trans hsz hb5.size
                  have HO5 := Lib.hid hO5
                  have HR5 := Lib.hid (Kd.R_below HR4.out hb5)
                  have HB5 := Lib.hid (HB.out.trans (hb5.mono (by omega)))
                  have HS5 := Lib.hid (show ∀ b, b < b3 → b ≠ n0 + 1 → w5.heap[b]? = w3.heap[b]? from fun b hb hbo => (hb5.block b (by omega)).trans (HSm.out b hb hbo))
                  clear hO5 hb5 HIx hPc hOc4 hOf4 hQc4
                  by_cases hneg : kk < 0
                  · have hnm : R = ([], 10) := by
                      have h1 := HL2.out
                      rw [if_pos hneg] at h1
                      rw [← HR.out]
                      unfold orderF
                      rw [HNames.out, HTrees.out, HWs.out]
                      simp only [if_true]
                      rw [← h1]
                    have HRn := Lib.hid hnm
                    clear hnm HL2
                    go_wp2_with fail
                    refine bodyPost_ret (v := .tuple #[.slice none 0 0, .int .i64 10]) (by simp [results, Try.results9, go_sem, hOc5]) rfl ?_
                    rw [HRn.out]
                    exact ⟨⟨none, 0, rfl, Nat.le_refl _, Kd.C_nil _ _⟩, HB5.out.setCell (p := ⟨n0 + 1, 0, none⟩) (by simp) _⟩
                  · have hL3 : loopF l ws (l.length - (out.length + 1)) (out ++ [kk]) = loopF l ws l.length [] := by
                      have h1 := HL2.out
                      rw [if_neg hneg] at h1
                      exact h1
                    have HL3 := Lib.hid hL3
                    clear hL3 HL2
                    go_wp2_with ((with_reducible refine gate_builtin (b := .append) (xs := #[.tmp 69, .tmp 71]) rfl ?_); at_builtin; refine Kd.R_append (Kd.int .i64) (w0 := w5) b3 rfl (.tmp 69) (.tmp 71) 28 3 (.int .i64 0) 8 rfl Try.underlying28 info3 rfl (by decide) (by omega) (.slice Ao out.length co) out kk [.int .i64 kk] (fun k => b3 ≤ k) (fun _ => False) rfl rfl ?aP (fun _ hk => hk.elim) ?aF ?aO ?aB ?aS ?aL ?_; (case aP => exact rfl); (case aF => intro k hk; omega); (case aO => exact HR5.out); (case aB => exact Below.refl _ _); (case aS => exact hsz5); (case aL => omega); intro v1 w6 ho hb6 hg6 hat; obtain ⟨A7, c7, rfl⟩ := Kd.R_slice ho; rw [List.length_append, List.length_singleton] at ho; have HO6 := Lib.hid ho; have hk6 := (hb6.block (n0 + 1) (by omega)).trans HO5.out; have d6 : w6.cell? ⟨n0 + 1, 0, none⟩ = some (.slice Ao out.length co) := (bk_cell hk6 0).trans rfl; have f6 : w6.frozen? ⟨n0 + 1, 0, none⟩ = false := bk_frozen hk6 0; have HK6 := Lib.hid hk6; have HB6 := Lib.hid hb6; clear ho hb6 hg6 hat hk6)
                    go_roundw
                    case rel =>
                      refine ⟨out ++ [kk], _, by simp; omega, by rw [List.length_append, List.length_singleton]; exact HL3.out, bk_set1 HK6.out _, Kd.R_far (p := ⟨n0 + 1, 0, none⟩) HO6.out (fun k hk => by simp only; omega) _, (HB5.out.trans (HB6.out.mono (by omega))).setCell (p := ⟨n0 + 1, 0, none⟩) (by simp) _, by simp; exact Nat.le_trans hsz5 HB6.out.size, fun b hb hbo => ?_⟩
                      exact (Below.heap_setCell w6 ⟨n0 + 1, 0, none⟩ _ b hbo).trans ((HB6.out.block b hb).trans (HS5.out b hb hbo))
                    case measure =>
                      rw [HLen.out, lenAt_eq (World.cell?_setCell_same' _ _ _ (by rw [d6]; rfl))]
                      omega
                · have hnm : R = (out, 0) := by
                    have h1 := HLp.out
                    rw [heq, Nat.sub_self] at h1
                    rw [← HR.out]
                    unfold orderF
                    rw [HNames.out, HTrees.out, HWs.out]
                    simp only [if_true]
                    rw [← h1]
                    rfl
                  have HRn := Lib.hid hnm
                  have HHe := Lib.hid heq
                  have hnl : ¬ ((out.length : Int) < l.length) := by omega
                  clear hnm HLp hWt4
                  go_wp2_with fail
                  refine bodyPost_ret (v := .tuple #[.slice Ao out.length co, .int .i64 0]) (by simp [results, Try.results9, go_sem, hOc4]; omega) rfl ?_
                  rw [HRn.out]
                  refine ⟨⟨Ao, co, rfl, hoc, C_same HoC.out (O := n0 + 1) (fun j z e => ?_) (fun b _ hbo => Below.heap_setCell wr ⟨n0 + 1, 0, none⟩ _ b hbo)⟩, HB.out.setCell (p := ⟨n0 + 1, 0, none⟩) (by simp) _⟩
                  rw [bk_cell HO.out] at e
                  cases j with
                  | zero => cases e
                  | succ j => simp at e
end Go.Proofs.Ytbmjdkbakeckoaa
