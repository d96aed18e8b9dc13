/- The document's places, names of locals, and whether all is there: the walks. -/
import Derived.Test.YtbmjdkbakeckoaaGc
import Derived.Test.YtbmjdkbakeckoaaPRefsAllx1
import Derived.Deep.Slices
import Derived.Deep.Fields
import Derived.ChangeSame
import Derived.ChangeSlices
namespace Go.Proofs.Ytbmjdkbakeckoaa
open Go Go.RowKit Go.Proofs.YtbmjdkbakeckoaaW.PrintWords Go.Proofs.YtbmjdkbakeckoaaW.PrintLast Go.Proofs.YtbmjdkbakeckoaaW.PrintMore Go.Proofs.Ytbmjdkbakeckoaa.PRefsAll
set_option maxRecDepth 100000
set_option linter.unusedSimpArgs false
set_option linter.unusedVariables false
set_option maxHeartbeats 4000000

theorem place_loop (l : List S27) (t : ByteArray) (hl : l.length ≤ 1000) : ∀ (d i k : Nat), i + d = l.length → d + 1 ≤ k → doorkeeperref4_place.l0 k l t i = some (idxF (fun x => toL x.f0 == toL t) (l.drop i) i)
  | 0, i, k, hi, hk => by
    obtain ⟨k, rfl⟩ : ∃ m, k = m + 1 := ⟨k - 1, by omega⟩
    obtain rfl : i = l.length := by omega
    simp only [doorkeeperref4_place.l0]
    rw [if_neg (by omega), List.drop_length]
    rfl
  | d + 1, i, k, hi, hk => by
    obtain ⟨k, rfl⟩ : ∃ m, k = m + 1 := ⟨k - 1, by omega⟩
    have hlt : i < l.length := by omega
    have hw : wrap64 ((i : Int) + 1) = ((i + 1 : Nat) : Int) := by unfold wrap64; omega
    have hrd := rd27 l i hlt
    have hd : l.drop i = rd_T27 l i :: l.drop (i + 1) := by
      rw [List.drop_eq_getElem_cons hlt]
      congr 1
      exact Option.some.inj ((List.getElem?_eq_getElem hlt).symm.trans hrd)
    rw [hd]
    simp only [doorkeeperref4_place.l0, idxF]
    rw [if_pos (by omega), if_pos (by omega), hw, place_loop l t hl d (i + 1) k (by omega) (by omega), toList_toL, toList_toL]
    by_cases h : toL (rd_T27 l i).f0 = toL t
    · rw [if_pos h, if_pos (by simp [h])]
    · rw [if_neg h, if_neg (by simp [h])]
theorem place_any (l : List S27) (t : ByteArray) (A : Option Addr) (c : Nat) (w : World) (hl : Kd.C k27 w A l.length l) (hc : l.length ≤ c) (hn : l.length ≤ 1000) :
    Calls Try.prog 26 #[.slice A l.length c, .string t] w fun e w' => e = .returned (.int .i64 (findF l t)) ∧ Below w.heap.size w w' := by
  refine (doorkeeperref4_place.calls 1001 A c l t (findF l t) w hl hc ?_).mono ?_
  · unfold doorkeeperref4_place.f findF
    have := place_loop l t hn l.length 0 1001 (by omega) (by omega)
    rw [show ((0 : Nat) : Int) = 0 from rfl] at this
    exact this
  · rintro e w' ⟨rfl, h⟩
    exact ⟨rfl, h.below⟩

/-- The name of a reference to a local, as the document says it. -/
def locP (s : ByteArray) : ByteArray := match locF s with
  | some t => t
  | none => ⟨#[]⟩
theorem local_any (s : ByteArray) (w : World) : Calls Try.prog 28 #[.string s] w fun e w' => e = .returned (.string (locP s)) ∧ Below w.heap.size w w' := by
  refine (doorkeeperref4_local.calls s (locP s) w ?_).mono ?_
  · unfold doorkeeperref4_local.f locP locF
    by_cases h : 6 < s.size
    · rw [if_pos (by omega), if_pos (by decide), if_pos (by omega)]
      by_cases h2 : (s.extract 0 6).toList = [108, 111, 99, 97, 108, 46]
      · rw [if_pos h2, if_pos ⟨h, h2⟩]
      · rw [if_neg h2, if_neg (fun e => h2 e.2)]
    · rw [if_neg (by omega), if_neg (fun e => h e.1)]
  · rintro e w' ⟨rfl, h⟩
    exact ⟨rfl, h.below⟩
theorem locP_none {s : ByteArray} (h : locF s = none) : locP s = ⟨#[]⟩ := by unfold locP; rw [h]
theorem locP_some {s t : ByteArray} (h : locF s = some t) : locP s = t := by unfold locP; rw [h]
theorem locF_ne {s t : ByteArray} (h : locF s = some t) : (t.toList != ([] : List UInt8)) = true := by
  unfold locF at h
  split at h
  · rename_i h2
    cases h
    rw [bne_iff_ne]
    intro e
    have := (toList_nil _).1 e
    simp at this
    omega
  · cases h

/-- The places that references mean. -/
def needL (l : List S27) (rs : List ByteArray) : List Int := rs.filterMap fun s => (locF s).map (findF l)
def badL (ks : List Int) : Bool := ks.any fun k => decide (k < 0)
theorem needF_eq (l : List S27) : ∀ (rs : List ByteArray) (out : List Int), needF l rs out = if badL (needL l rs) then none else some (out ++ needL l rs)
  | [], out => by simp [needF, needL, badL]
  | s :: rs, out => by
    simp only [needF]
    cases h : locF s with
    | none =>
      have e : needL l (s :: rs) = needL l rs := by unfold needL; rw [List.filterMap_cons, h]; rfl
      rw [e]
      exact needF_eq l rs out
    | some t =>
      have e : needL l (s :: rs) = findF l t :: needL l rs := by unfold needL; rw [List.filterMap_cons, h]; rfl
      rw [e]
      simp only
      by_cases hk : findF l t < 0
      · rw [if_pos hk, if_pos (by unfold badL; simp [hk])]
      · rw [if_neg hk, needF_eq l rs, List.append_assoc]
        have e2 : badL (findF l t :: needL l rs) = badL (needL l rs) := by unfold badL; simp [hk]
        rw [e2]
        rfl
theorem waitsG_eq (l : List S27) : ∀ (xs : List S27) (ws : List (List Int)), waitsG l xs ws = if (xs.any fun x => badL (needL l (ofF x.f1))) then none else some (ws ++ xs.map fun x => needL l (ofF x.f1))
  | [], ws => by simp [waitsG]
  | x :: xs, ws => by
    simp only [waitsG]
    rw [needF_eq, List.any_cons]
    by_cases h : badL (needL l (ofF x.f1)) = true
    · rw [if_pos h, if_pos (by simp [h])]
    · have h2 : badL (needL l (ofF x.f1)) = false := by simpa using h
      rw [if_neg h, h2, Bool.false_or]
      simp only [List.nil_append]
      rw [waitsG_eq l xs]
      simp
theorem idxF_range (q : S27 → Bool) : ∀ (l : List S27) (i : Nat), idxF q l i = -1 ∨ ∃ j, j < l.length ∧ idxF q l i = ((i + j : Nat) : Int)
  | [], i => .inl rfl
  | x :: l, i => by
    simp only [idxF]
    split
    · exact .inr ⟨0, by simp, rfl⟩
    · rcases idxF_range q l (i + 1) with h | ⟨j, h1, h2⟩
      · exact .inl h
      · exact .inr ⟨j + 1, by simp; omega, by rw [h2]; congr 1; omega⟩
theorem findF_range (l : List S27) (t : ByteArray) (h : ¬ findF l t < 0) : ∃ k, k < l.length ∧ findF l t = (k : Int) := by
  rcases idxF_range (fun x => toL x.f0 == toL t) l 0 with e | ⟨j, h1, h2⟩
  · exact absurd (by unfold findF; rw [e]; decide) h
  · exact ⟨j, h1, by unfold findF; rw [h2]; congr 1; omega⟩

/-- Which are there, where it lies. -/
def DoneAt (W : World) (g n : Nat) (out : List Int) : Prop := ∃ cur, W.heap[g]? = some (.cells cur 4 (0, 0)) ∧ cur.size = n ∧ ∀ j, j < n → cur[j]? = some (.bool (out.contains (j : Int)))
theorem DoneAt.below {W W' : World} {g n : Nat} {out : List Int} (h : DoneAt W g n out) (hb : Below W.heap.size W W') : DoneAt W' g n out := by
  obtain ⟨cur, h1, h2, h3⟩ := h
  exact ⟨cur, bk_below h1 hb, h2, h3⟩
theorem DoneAt.block {W W' : World} {g n : Nat} {out : List Int} (h : DoneAt W g n out) (hb : W'.heap[g]? = W.heap[g]?) : DoneAt W' g n out := by
  obtain ⟨cur, h1, h2, h3⟩ := h
  exact ⟨cur, hb.trans h1, h2, h3⟩
theorem DoneAt.start {W : World} {g n : Nat} (h : W.heap[g]? = some (.cells (madeCells #[.bool false] n) 4 (0, 0))) : DoneAt W g n [] := by
  refine ⟨_, h, size_madeCells _ _, fun j hj => ?_⟩
  rw [← Array.getElem?_toList, toList_madeCells_one, List.getElem?_replicate, if_pos hj]
  rfl
theorem DoneAt.set {W : World} {g n k : Nat} {out : List Int} (h : DoneAt W g n out) (hk : k < n) : DoneAt (W.setCell ⟨g, k, none⟩ (.bool true)) g n (out ++ [(k : Int)]) := by
  obtain ⟨cur, h1, h2, h3⟩ := h
  refine ⟨_, bk_setAt h1 k _, by simp [h2], fun j hj => ?_⟩
  rw [Array.getElem?_setIfInBounds]
  by_cases hkj : k = j
  · subst hkj
    rw [if_pos rfl, if_pos (by omega)]
    simp
  · rw [if_neg hkj, h3 j hj]
    have : ¬ (j : Int) = (k : Int) := by omega
    simp [this]

theorem ready_any (l : List S27) (i : Nat) (out : List Int) (A : Option Addr) (c g : Nat) (w : World) (hl : Kd.C k27 w A l.length l) (hc : l.length ≤ c) (hn : l.length ≤ 1000) (hi : i < l.length) (hf : Fits (rd_T27 l i).f1)
    (hb : badL (needL l (ofF (rd_T27 l i).f1)) = false) (hD : DoneAt w g l.length out) :
    Calls Try.prog 29 #[.slice A l.length c, .int .i64 i, .slice (some ⟨g, 0, none⟩) l.length l.length] w fun e w' => e = .returned (.bool ((needL l (ofF (rd_T27 l i).f1)).all fun k => out.contains k)) ∧ Below w.heap.size w w' := by
  obtain ⟨β, o, A1, c1, rfl, hβ, q0, q1, h2, h3⟩ := attr_cells hl i hi
  obtain ⟨x, hx⟩ : ∃ x, rd_T27 l i = x := ⟨_, rfl⟩
  rw [hx] at q0 q1 h2 h3 hf hb ⊢
  obtain ⟨t, ex⟩ := x
  dsimp only at q0 q1 h2 h3 hf hb ⊢
  have HOf := Lib.hid (of4_any ex A1 c1 w hf h3)
  have hrl := ofF_len ex hf
  have HL := Lib.hid hl
  have HD := Lib.hid hD
  obtain ⟨rs, hrs⟩ : ∃ rs, ofF ex = rs := ⟨_, rfl⟩
  rw [hrs] at HOf hrl hb ⊢
  obtain ⟨R, hR⟩ : ∃ R, ((needL l rs).all fun k => out.contains k) = R := ⟨_, rfl⟩
  rw [hR]
  have HR := Lib.hid hR
  have HBd := Lib.hid hb
  obtain ⟨base, hbase⟩ : ∃ b, w.heap.size = b := ⟨_, rfl⟩
  have HBase := Lib.hid hbase
  rw [hbase] at HOf ⊢
  clear hR hrs h3 hl hx hf hbase hb hD
  go_enter Try.func29, Try.ntmps29
  go_wp2_with fail
  refine HOf.out.mono ?_
  rintro e w1 ⟨⟨A2, c2, rfl, hle, hC⟩, hb1⟩
  have HC := Lib.hid hC
  have HB1 := Lib.hid hb1
  clear HOf hC hb1
  go_wp2_with fail
  go_loopw [8] (fun iv wr => ∃ (j : Nat), j ≤ rs.length ∧ iv = .int .i64 j ∧ ((needL l (rs.drop j)).all fun k => out.contains k) = R ∧ badL (needL l (rs.drop j)) = false ∧ Below base w wr ∧ Below w1.heap.size w1 wr) (fun iv _ => rs.length - (intOf iv).toNat)
  case atStart => exact ⟨0, by omega, rfl, HR.out, HBd.out, HB1.out, Below.refl _ _⟩
  case round =>
    obtain ⟨j, hj, rfl, hF, hbd, hb, hbx⟩ := hrel
    have HF := Lib.hid hF
    have HBj := Lib.hid hbd
    have HB := Lib.hid hb
    have HBx := Lib.hid hbx
    clear hF hb hbx hbd
    by_cases hlt : j < rs.length
    · obtain ⟨b4, o4, rfl, hb4, p0⟩ := string_cells HC.out j hlt
      have p0 := (HBx.out.cell (p := ⟨b4, o4 + j, none⟩) hb4).trans p0
      have hd : rs.drop j = rs[j]?.getD ByteArray.empty :: rs.drop (j + 1) := by
        rw [List.drop_eq_getElem_cons hlt]
        simp [hlt]
      obtain ⟨s, hs⟩ : ∃ s, rs[j]?.getD ByteArray.empty = s := ⟨_, rfl⟩
      rw [hs] at p0 hd
      have hF2 := HF.out
      have hB2 := HBj.out
      rw [hd] at hF2 hB2
      have HF2 := Lib.hid hF2
      have HBj2 := Lib.hid hB2
      have HLo := Lib.hid (local_any s wr)
      clear hF2 hd hs HF HBj hB2
      cases hloc : locF s with
      | none =>
        have e : needL l (s :: rs.drop (j + 1)) = needL l (rs.drop (j + 1)) := by unfold needL; rw [List.filterMap_cons, hloc]; rfl
        rw [e] at HF2 HBj2
        rw [locP_none hloc] at HLo
        clear hloc e
        go_wp2_with fail
        refine HLo.out.mono ?_
        rintro e w2 ⟨rfl, hb2⟩
        have HB2 := Lib.hid (HB.out.trans (hb2.mono (by rw [← HBase.out]; exact HB.out.size)))
        have HBy := Lib.hid (HBx.out.trans (hb2.mono HBx.out.size))
        clear hb2 HLo
        go_wp2_with fail
        go_roundw
        case rel => exact ⟨j + 1, by omega, by go_num, HF2.out, HBj2.out, HB2.out, HBy.out⟩
        case measure => simp [intOf]; omega
      | some t2 =>
        have e : needL l (s :: rs.drop (j + 1)) = findF l t2 :: needL l (rs.drop (j + 1)) := by unfold needL; rw [List.filterMap_cons, hloc]; rfl
        rw [e] at HF2 HBj2
        rw [locP_some hloc] at HLo
        have hne := locF_ne hloc
        have hk0 : ¬ findF l t2 < 0 := by
          intro hk
          have := HBj2.out
          unfold badL at this
          simp [hk] at this
        obtain ⟨k, hkl, hk⟩ := findF_range l t2 hk0
        have HPl := Lib.hid (fun W (hW : Below base w W) => place_any l t2 (some ⟨β, o, none⟩) c W (Kd.C_below HL.out (by rw [HBase.out]; exact hW)) hc hn)
        rw [hk] at HF2 HBj2 HPl
        have hb3 : badL (needL l (rs.drop (j + 1))) = false := by
          have := HBj2.out
          unfold badL at this ⊢
          rw [List.any_cons, Bool.or_eq_false_iff] at this
          exact this.2
        have HB3 := Lib.hid hb3
        have HF3 := HF2.out
        rw [List.all_cons] at HF3
        obtain ⟨τ, hτ⟩ : ∃ τ, out.contains (k : Int) = τ := ⟨_, rfl⟩
        rw [hτ] at HF3
        have HF4 := Lib.hid HF3
        have hnil : (t2.toList == ([] : List UInt8)) = false := by rw [beq_eq_false_iff_ne]; exact bne_iff_ne.1 hne
        have hnil2 : t2.toList ≠ [] := bne_iff_ne.1 hne
        clear hloc e hk0 hk HBj2 HF2 HF3 hb3
        go_wp2_with fail
        refine HLo.out.mono ?_
        rintro e w2 ⟨rfl, hb2⟩
        have HB2 := Lib.hid (HB.out.trans (hb2.mono (by rw [← HBase.out]; exact HB.out.size)))
        have HBy := Lib.hid (HBx.out.trans (hb2.mono HBx.out.size))
        clear hb2 HLo
        go_wp2_with fail
        refine (HPl.out _ HB2.out).mono ?_
        rintro e w3 ⟨rfl, hb3⟩
        have HB4 := Lib.hid (HB2.out.trans (hb3.mono (by rw [← HBase.out]; exact HB2.out.size)))
        have HBz := Lib.hid (HBy.out.trans (hb3.mono HBy.out.size))
        obtain ⟨cur, hc1, hc2, hc3⟩ := HD.out.below (by rw [HBase.out]; exact HB4.out)
        have hgk : w3.cell? ⟨g, k, none⟩ = some (.bool τ) := by rw [bk_cell hc1 k, hc3 k hkl, hτ]
        clear hb3 HPl hc1 hc2 hc3 hτ
        cases τ
        · have hRR : R = false := by have := HF4.out; rw [Bool.false_and] at this; exact this.symm
          have HRR := Lib.hid hRR
          clear hRR
          go_wp2_with fail
          go_ret
          exact ⟨by rw [HRR.out]; rfl, HB4.out⟩
        · have hRR : ((needL l (rs.drop (j + 1))).all fun k => out.contains k) = R := by have := HF4.out; rw [Bool.true_and] at this; exact this
          have HRR := Lib.hid hRR
          clear hRR
          go_wp2_with fail
          go_roundw
          case rel => exact ⟨j + 1, by omega, by go_num, HRR.out, HB3.out, HB4.out, HBz.out⟩
          case measure => simp [intOf]; omega
    · obtain rfl : j = rs.length := by omega
      have hRR : R = true := by have := HF.out; rw [List.drop_length] at this; exact this.symm
      have HRR := Lib.hid hRR
      clear hRR
      go_wp2_with fail
      go_ret
      exact ⟨by rw [HRR.out]; rfl, HB.out⟩
end Go.Proofs.Ytbmjdkbakeckoaa
namespace Go.Proofs.Ytbmjdkbakeckoaa
open Go Go.RowKit Go.Proofs.YtbmjdkbakeckoaaW.PrintWords Go.Proofs.YtbmjdkbakeckoaaW.PrintLast Go.Proofs.YtbmjdkbakeckoaaW.PrintMore Go.Proofs.Ytbmjdkbakeckoaa.PRefsAll
set_option maxRecDepth 100000
set_option linter.unusedSimpArgs false
set_option linter.unusedVariables false
set_option maxHeartbeats 4000000

theorem idxF_append (q : S27 → Bool) : ∀ (a b : List S27) (k : Nat), idxF q (a ++ b) k = if idxF q a k < 0 then idxF q b (k + a.length) else idxF q a k
  | [], b, k => by simp [idxF]
  | x :: a, b, k => by
    rw [List.cons_append]
    by_cases h : q x = true
    · have e1 : idxF q (x :: (a ++ b)) k = (k : Int) := by simp only [idxF]; rw [if_pos h]
      have e2 : idxF q (x :: a) k = (k : Int) := by simp only [idxF]; rw [if_pos h]
      rw [e1, e2, if_neg (by omega)]
    · have e1 : idxF q (x :: (a ++ b)) k = idxF q (a ++ b) (k + 1) := by simp only [idxF]; rw [if_neg h]
      have e2 : idxF q (x :: a) k = idxF q a (k + 1) := by simp only [idxF]; rw [if_neg h]
      rw [e1, e2, idxF_append q a b (k + 1), List.length_cons]
      rw [show k + 1 + a.length = k + (a.length + 1) by omega]
/-- An attribute stands where its name is first found: none ahead of it has the name. -/
theorem names_step (l : List S27) (i : Nat) (x : S27) (hx : l[i]? = some x) : (findF l x.f0 == (i : Int)) = decide (findF (l.take i) x.f0 < 0) := by
  have hlt : i < l.length := (List.getElem?_eq_some_iff.1 hx).1
  have hd : l = l.take i ++ x :: l.drop (i + 1) := by
    conv => lhs; rw [← List.take_append_drop i l, List.drop_eq_getElem_cons hlt]
    congr 2
    exact Option.some.inj ((List.getElem?_eq_getElem hlt).symm.trans hx)
  have hl : (l.take i).length = i := by rw [List.length_take]; omega
  have e : findF l x.f0 = if findF (l.take i) x.f0 < 0 then (i : Int) else findF (l.take i) x.f0 := by
    unfold findF
    conv => lhs; rw [hd]
    rw [idxF_append, hl]
    simp [idxF]
  rw [e]
  by_cases h : findF (l.take i) x.f0 < 0
  · rw [if_pos h]; simp [h]
  · rw [if_neg h]
    obtain ⟨k, hk, hk2⟩ := findF_range _ _ h
    rw [hl] at hk
    have : ¬ (k : Int) = (i : Int) := by omega
    rw [hk2, beq_eq_false_iff_ne.2 this, decide_eq_false (by omega)]
theorem C_take27 {w : World} {A : Option Addr} {l : List S27} (i c : Nat) (h : Kd.C k27 w A l.length l) (hi : i ≤ l.length) : Kd.C k27 w A (l.take i).length (l.take i) := by
  exact Kd.C_take (m := i) h hi
theorem info4 : (Try.prog.info? 4).map (fun i => (i.zero, i.size, i.bytes)) = some (some (.bool false), 1, 1) := by kernel_rfl
def lenV : Value → Nat
  | .slice _ k _ => k
  | _ => 0
/-- What each waits for. -/
def wsOf (l : List S27) : List (List Int) := l.map fun x => needL l (ofF x.f1)
theorem wsOf_at (l : List S27) (i : Nat) (x : S27) (h : l[i]? = some x) : (wsOf l).getD ((i : Int)).toNat [] = needL l (ofF x.f1) := by
  rw [List.getD_eq_getElem?_getD, show ((i : Int)).toNat = i by omega]
  unfold wsOf
  rw [List.getElem?_map, h]
  rfl

theorem order4_any (l : List S27) (A : Option Addr) (c : Nat) (w : World) (hl : Kd.C k27 w A l.length l) (hc : l.length ≤ c) (hf : Fit2 l) :
    Calls Try.prog 10 #[.slice A l.length c] w fun e w' => (∃ A c, e = .returned (.tuple #[.slice A (orderF l).1.length c, .int .i64 (orderF l).2]) ∧ (orderF l).1.length ≤ c ∧ (Kd.int .i64).C w' A (orderF l).1.length (orderF l).1) ∧ Below w.heap.size w w' := by
  have HL := Lib.hid hl
  have HF := Lib.hid hf.2
  have hlen := hf.1
  obtain ⟨R, hR⟩ : ∃ R, orderF l = R := ⟨_, rfl⟩
  rw [hR]
  have HR := Lib.hid hR
  obtain ⟨n0, hbase⟩ : ∃ b, w.heap.size = b := ⟨_, rfl⟩
  have HB0 := Lib.hid hbase
  rw [hbase]
  clear hl hf hR hbase
  go_enter Try.func10, Try.ntmps10
  go_wp2_with fail
  go_loopw [4] (fun iv wr => ∃ i : Nat, i ≤ l.length ∧ iv = .int .i64 i ∧ namesG l (l.drop i) i = namesG l l 0 ∧ Below n0 w wr) (fun iv _ => l.length - (intOf iv).toNat)
  case atStart => exact ⟨0, by omega, rfl, rfl, Below.refl _ _⟩
  case round =>
    obtain ⟨i, hi, rfl, hG, hB⟩ := hrel
    have HG := Lib.hid hG
    have HB := Lib.hid hB
    clear hG hB
    by_cases hlt : i < l.length
    · obtain ⟨β, o, A1, c1, rfl, hβ, q0, q1, h2, h3⟩ := attr_cells HL.out i hlt
      rw [HB0.out] at hβ
      have q0 := (HB.out.cell (p := ⟨β, o + i * 2, none⟩) hβ).trans q0
      have hrd := rd27 l i hlt
      have hd : l.drop i = rd_T27 l i :: l.drop (i + 1) := by
        rw [List.drop_eq_getElem_cons hlt]
        congr 1
        exact Option.some.inj ((List.getElem?_eq_getElem hlt).symm.trans hrd)
      have hG2 := HG.out
      rw [hd] at hG2
      simp only [namesG] at hG2
      rw [names_step l i _ hrd] at hG2
      obtain ⟨x, hx⟩ : ∃ x, rd_T27 l i = x := ⟨_, rfl⟩
      rw [hx] at q0 hG2
      obtain ⟨t, ex⟩ := x
      dsimp only at q0 hG2
      have htl : (l.take i).length = i := by rw [List.length_take]; omega
      obtain ⟨kk, hkk⟩ : ∃ kk, findF (l.take i) t = kk := ⟨_, rfl⟩
      rw [hkk] at hG2
      have HG2 := Lib.hid hG2
      have HPl := Lib.hid (fun W (hW : Below n0 w W) => by
        have := place_any (l.take i) t (some ⟨β, o, none⟩) c W (C_take27 i c (Kd.C_below HL.out (by rw [HB0.out]; exact hW)) (by omega)) (by omega) (by omega)
        rw [htl, hkk] at this
        exact this)
      have hic : (i : Int) ≤ c := by omega
      have hil : (i : Int) < l.length := by omega
      have hil2 : (i : Int) ≤ l.length := by omega
      clear hd hrd hx h2 h3 hG2 hkk q1 HG htl
      go_wp2_with fail
      go_still_tail 8, (by kernel_rfl)
      change wpList _ _ _ _ _ wr.drew
      have hD : Below wr.heap.size wr wr.drew := (Below.refl _ _).drew
      obtain ⟨W1, hW1⟩ : ∃ W1, wr.drew = W1 := ⟨_, rfl⟩
      rw [hW1] at hD ⊢
      have HB1 := Lib.hid (HB.out.trans (hD.mono (by rw [← HB0.out]; exact HB.out.size)))
      clear hW1 hD
      go_wp2_with fail
      refine (HPl.out _ HB1.out).mono ?_
      rintro e w2 ⟨rfl, hb2⟩
      have HB2 := Lib.hid (HB1.out.trans (hb2.mono (by rw [← HB0.out]; exact HB1.out.size)))
      clear HPl hb2
      by_cases hneg : kk < 0
      · have hnm : namesG l (l.drop (i + 1)) (i + 1) = namesG l l 0 := by
          have := HG2.out
          rw [decide_eq_true hneg, Bool.true_and] at this
          exact this
        have HNm := Lib.hid hnm
        have hge : ¬ kk ≥ 0 := by omega
        clear hnm HG2
        go_wp2_with fail
        go_roundw
        case rel => exact ⟨i + 1, by omega, by go_num, HNm.out, HB2.out⟩
        case measure => simp [intOf]; omega
      · have hnm : R = ([], 3) := by
          have h1 := HG2.out
          rw [decide_eq_false hneg, Bool.false_and] at h1
          rw [← HR.out]
          unfold orderF
          rw [← h1]
          rfl
        have HRn := Lib.hid hnm
        have hge : kk ≥ 0 := by omega
        clear hnm HG2
        go_wp2_with fail
        go_ret2
        rw [HRn.out]
        exact ⟨⟨none, 0, rfl, Nat.le_refl _, Kd.C_nil _ _⟩, HB2.out⟩
    · obtain rfl : i = l.length := by omega
      have hnames : namesG l l 0 = true := by
        have := HG.out
        rw [List.drop_length] at this
        exact this.symm
      have HNames := Lib.hid hnames
      clear hnames HG
      go_wp2_with fail
      go_loopw [5] (fun iv wr => ∃ i : Nat, i ≤ l.length ∧ iv = .int .i64 i ∧ ((l.drop i).all fun x => treeP x.f1) = treesP l ∧ Below n0 w wr) (fun iv _ => l.length - (intOf iv).toNat)
      case atStart => exact ⟨0, by omega, rfl, rfl, HB.out⟩
      case round =>
        obtain ⟨i, hi, rfl, hG, hB⟩ := hrel
        have HG := Lib.hid hG
        have HB := Lib.hid hB
        clear hG hB
        by_cases hlt : i < l.length
        · obtain ⟨β, o, A1, c1, rfl, hβ, q0, q1, h2, h3⟩ := attr_cells HL.out i hlt
          have h3 := Kd.C_below h3 (by rw [HB0.out]; exact HB.out)
          rw [HB0.out] at hβ
          have q1 := (HB.out.cell (p := ⟨β, o + i * 2 + 1, none⟩) hβ).trans q1
          have hrd := rd27 l i hlt
          have hd : l.drop i = rd_T27 l i :: l.drop (i + 1) := by
            rw [List.drop_eq_getElem_cons hlt]
            congr 1
            exact Option.some.inj ((List.getElem?_eq_getElem hlt).symm.trans hrd)
          have hfx := HF.out _ (List.mem_of_getElem? hrd)
          have hG2 := HG.out
          rw [hd, List.all_cons] at hG2
          obtain ⟨x, hx⟩ : ∃ x, rd_T27 l i = x := ⟨_, rfl⟩
          rw [hx] at q1 hG2 hfx h3
          obtain ⟨t, ex⟩ := x
          dsimp only at q1 hG2 hfx h3
          have HTr := Lib.hid (tree1_is ex A1 c1 wr hfx h3)
          obtain ⟨τ, hτ⟩ : ∃ τ, treeP ex = τ := ⟨_, rfl⟩
          rw [hτ] at hG2 HTr
          have HG2 := Lib.hid hG2
          clear hd hrd hx h2 h3 hG2 hτ HG hfx q0
          go_wp2_with fail
          refine HTr.out.mono ?_
          rintro e w2 ⟨rfl, hb2⟩
          have HB2 := Lib.hid (HB.out.trans (hb2.mono (by rw [← HB0.out]; exact HB.out.size)))
          clear hb2 HTr
          cases τ
          · have hnm : R = ([], 1) := by
              have h1 := HG2.out
              rw [Bool.false_and] at h1
              rw [← HR.out]
              unfold orderF
              rw [HNames.out, ← h1]
              rfl
            have HRn := Lib.hid hnm
            clear hnm HG2
            go_wp2_with fail
            go_ret2
            rw [HRn.out]
            exact ⟨⟨none, 0, rfl, Nat.le_refl _, Kd.C_nil _ _⟩, HB2.out⟩
          · have hnm : ((l.drop (i + 1)).all fun x => treeP x.f1) = treesP l := by
              have := HG2.out
              rw [Bool.true_and] at this
              exact this
            have HNm := Lib.hid hnm
            clear hnm HG2
            go_wp2_with fail
            go_roundw
            case rel => exact ⟨i + 1, by omega, by go_num, HNm.out, HB2.out⟩
            case measure => simp [intOf]; omega
        · obtain rfl : i = l.length := by omega
          have htrees : treesP l = true := by
            have := HG.out
            rw [List.drop_length] at this
            exact this.symm
          have HTrees := Lib.hid htrees
          clear htrees HG
          go_wp2_with fail
          go_loopw [6] (fun iv wr => ∃ i : Nat, i ≤ l.length ∧ iv = .int .i64 i ∧ ((l.drop i).any fun x => badL (needL l (ofF x.f1))) = (l.any fun x => badL (needL l (ofF x.f1))) ∧ Below n0 w wr) (fun iv _ => l.length - (intOf iv).toNat)
          case atStart => exact ⟨0, by omega, rfl, rfl, HB.out⟩
          case round =>
            obtain ⟨i, hi, rfl, hG, hB⟩ := hrel
            have HG := Lib.hid hG
            have HB := Lib.hid hB
            clear hG hB
            by_cases hlt : i < l.length
            · obtain ⟨β, o, A1, c1, rfl, hβ, q0, q1, h2, h3⟩ := attr_cells HL.out i hlt
              have h3 := Kd.C_below h3 (by rw [HB0.out]; exact HB.out)
              rw [HB0.out] at hβ
              have q1 := (HB.out.cell (p := ⟨β, o + i * 2 + 1, none⟩) hβ).trans q1
              have hrd := rd27 l i hlt
              have hd : l.drop i = rd_T27 l i :: l.drop (i + 1) := by
                rw [List.drop_eq_getElem_cons hlt]
                congr 1
                exact Option.some.inj ((List.getElem?_eq_getElem hlt).symm.trans hrd)
              have hmem := List.mem_of_getElem? hrd
              have hfx := HF.out _ hmem
              have hG2 := HG.out
              rw [hd, List.any_cons] at hG2
              obtain ⟨x, hx⟩ : ∃ x, rd_T27 l i = x := ⟨_, rfl⟩
              rw [hx] at q1 hG2 hfx h3 hmem
              obtain ⟨t, ex⟩ := x
              dsimp only at q1 hG2 hfx h3
              have HOf := Lib.hid (of4_any ex A1 c1 wr hfx h3)
              have hrl := ofF_len ex hfx
              obtain ⟨rs, hrs⟩ : ∃ rs, ofF ex = rs := ⟨_, rfl⟩
              have HM := Lib.hid (show badL (needL l rs) = true → (l.any fun x => badL (needL l (ofF x.f1))) = true from fun hb => List.any_eq_true.2 ⟨_, hmem, by rw [← hrs] at hb; exact hb⟩)
              rw [hrs] at hG2 HOf hrl
              have HG2 := Lib.hid hG2
              clear hd hrd hx h2 h3 hG2 HG hfx q0 hrs hmem
              go_wp2_with fail
              refine HOf.out.mono ?_
              rintro e w2 ⟨⟨A2, c2, rfl, hle, hC⟩, hb2⟩
              have HC := Lib.hid hC
              have HB2 := Lib.hid (HB.out.trans (hb2.mono (by rw [← HB0.out]; exact HB.out.size)))
              clear hb2 HOf hC
              go_wp2_with fail
              go_loopw [8] (fun jv wr => ∃ j : Nat, j ≤ rs.length ∧ jv = .int .i64 j ∧ badL (needL l (rs.drop j)) = badL (needL l rs) ∧ Below n0 w wr ∧ Below w2.heap.size w2 wr) (fun jv _ => rs.length - (intOf jv).toNat)
              case atStart => exact ⟨0, by omega, rfl, rfl, HB2.out, Below.refl _ _⟩
              case round =>
                obtain ⟨j, hj, rfl, hF, hb, hbx⟩ := hrel
                have HFj := Lib.hid hF
                have HBj := Lib.hid hb
                have HBx := Lib.hid hbx
                clear hF hb hbx
                by_cases hjl : j < rs.length
                · obtain ⟨b4, o4, rfl, hb4, p0⟩ := string_cells HC.out j hjl
                  have p0 := (HBx.out.cell (p := ⟨b4, o4 + j, none⟩) hb4).trans p0
                  have hd : rs.drop j = rs[j]?.getD ByteArray.empty :: rs.drop (j + 1) := by
                    rw [List.drop_eq_getElem_cons hjl]
                    simp [hjl]
                  obtain ⟨s, hs⟩ : ∃ s, rs[j]?.getD ByteArray.empty = s := ⟨_, rfl⟩
                  rw [hs] at p0 hd
                  have hF2 := HFj.out
                  rw [hd] at hF2
                  have HF2 := Lib.hid hF2
                  have HLo := Lib.hid (local_any s wr)
                  clear hF2 hd hs HFj
                  cases hloc : locF s with
                  | none =>
                    have e : needL l (s :: rs.drop (j + 1)) = needL l (rs.drop (j + 1)) := by unfold needL; rw [List.filterMap_cons, hloc]; rfl
                    rw [e] at HF2
                    rw [locP_none hloc] at HLo
                    clear hloc e
                    go_wp2_with fail
                    refine HLo.out.mono ?_
                    rintro e w3 ⟨rfl, hb3⟩
                    have HB3 := Lib.hid (HBj.out.trans (hb3.mono (by rw [← HB0.out]; exact HBj.out.size)))
                    have HBy := Lib.hid (HBx.out.trans (hb3.mono HBx.out.size))
                    clear hb3 HLo
                    go_wp2_with fail
                    go_roundw
                    case rel => exact ⟨j + 1, by omega, by go_num, HF2.out, HB3.out, HBy.out⟩
                    case measure => simp [intOf]; omega
                  | some t2 =>
                    have e : needL l (s :: rs.drop (j + 1)) = findF l t2 :: needL l (rs.drop (j + 1)) := by unfold needL; rw [List.filterMap_cons, hloc]; rfl
                    rw [e] at HF2
                    rw [locP_some hloc] at HLo
                    have hne := locF_ne hloc
                    have HPl := Lib.hid (fun W (hW : Below n0 w W) => place_any l t2 (some ⟨β, o, none⟩) c W (Kd.C_below HL.out (by rw [HB0.out]; exact hW)) hc (by omega))
                    obtain ⟨kk, hkk⟩ : ∃ kk, findF l t2 = kk := ⟨_, rfl⟩
                    rw [hkk] at HF2 HPl
                    have hnil : (t2.toList == ([] : List UInt8)) = false := by rw [beq_eq_false_iff_ne]; exact bne_iff_ne.1 hne
                    have hnil2 : t2.toList ≠ [] := bne_iff_ne.1 hne
                    clear hloc e hkk
                    go_wp2_with fail
                    refine HLo.out.mono ?_
                    rintro e w3 ⟨rfl, hb3⟩
                    have HB3 := Lib.hid (HBj.out.trans (hb3.mono (by rw [← HB0.out]; exact HBj.out.size)))
                    have HBy := Lib.hid (HBx.out.trans (hb3.mono HBx.out.size))
                    clear hb3 HLo
                    go_wp2_with fail
                    refine (HPl.out _ HB3.out).mono ?_
                    rintro e w4 ⟨rfl, hb4x⟩
                    have HB4 := Lib.hid (HB3.out.trans (hb4x.mono (by rw [← HB0.out]; exact HB3.out.size)))
                    have HBz := Lib.hid (HBy.out.trans (hb4x.mono HBy.out.size))
                    clear hb4x HPl
                    by_cases hneg : kk < 0
                    · have hnm : R = ([], 2) := by
                        have h1 := HF2.out
                        unfold badL at h1
                        rw [List.any_cons, decide_eq_true hneg, Bool.true_or] at h1
                        have h2 := HM.out h1.symm
                        rw [← HR.out]
                        unfold orderF
                        rw [HNames.out, HTrees.out, waitsG_eq, h2]
                        rfl
                      have HRn := Lib.hid hnm
                      clear hnm HF2
                      go_wp2_with fail
                      go_ret2
                      rw [HRn.out]
                      exact ⟨⟨none, 0, rfl, Nat.le_refl _, Kd.C_nil _ _⟩, HB4.out⟩
                    · have hnm : badL (needL l (rs.drop (j + 1))) = badL (needL l rs) := by
                        have h1 := HF2.out
                        unfold badL at h1 ⊢
                        rw [List.any_cons, decide_eq_false hneg, Bool.false_or] at h1
                        exact h1
                      have HNm := Lib.hid hnm
                      clear hnm HF2
                      go_wp2_with fail
                      go_roundw
                      case rel => exact ⟨j + 1, by omega, by go_num, HNm.out, HB4.out, HBz.out⟩
                      case measure => simp [intOf]; omega
                · obtain rfl : j = rs.length := by omega
                  have hnm : ((l.drop (i + 1)).any fun x => badL (needL l (ofF x.f1))) = (l.any fun x => badL (needL l (ofF x.f1))) := by
                    have h1 := HFj.out
                    rw [List.drop_length] at h1
                    have h2 := HG2.out
                    rw [← h1] at h2
                    exact h2
                  have HNm := Lib.hid hnm
                  clear hnm HFj HG2
                  go_wp2_with fail
                  go_roundw
                  case rel => exact ⟨i + 1, by omega, by go_num, HNm.out, HBj.out⟩
                  case measure => simp [intOf]; omega
            · obtain rfl : i = l.length := by omega
              have hws : (l.any fun x => badL (needL l (ofF x.f1))) = false := by
                have := HG.out
                rw [List.drop_length] at this
                exact this.symm
              have HWs := Lib.hid hws
              obtain ⟨ti, hti, htz, hts, htb⟩ := info_parts info4
              have hmk := run_make (P := Try.prog) wr 43 4 ti (.bool false) Try.underlying43 hti htz .i64 .i64 (l.length : Int) (l.length : Int) (by omega) (by omega) (by rw [htb]; omega) (by omega)
              rw [hts, Nat.mul_one, show ((l.length : Int)).toNat = l.length by omega, show (Value.bool false).cells = #[Value.bool false] from rfl] at hmk
              obtain ⟨W3, hW3⟩ : ∃ W3, W3 = wr.alloc (Obj.cells (madeCells #[Value.bool false] l.length) 4) := ⟨_, rfl⟩
              have hb3 : Below wr.heap.size wr W3 := by rw [hW3]; exact (Below.refl _ _).alloc (Nat.le_refl _) _
              have hD3 : DoneAt W3 wr.heap.size l.length [] := DoneAt.start (by rw [hW3]; exact bk_new _ _)
              have hn0 : n0 ≤ wr.heap.size := by rw [← HB0.out]; exact HB.out.size
              have HB3 := Lib.hid (HB.out.trans (hb3.mono hn0))
              obtain ⟨g, hgg⟩ : ∃ g, wr.heap.size = g := ⟨_, rfl⟩
              have hsz3 : W3.heap.size = g + 1 := by rw [hW3, World.size_alloc, hgg]
              rw [hgg] at hmk hD3 hn0
              have HD3 := Lib.hid hD3
              have HW3 := Lib.hid hW3
              clear hws hti htz hts htb hW3 hb3 hD3 HG
              go_wp2_with fail
              rw [← HW3.out]
              go_loopw [10] (fun vo wr => ∃ (out : List Int), out.length ≤ l.length ∧ loopF l (wsOf l) (l.length - out.length) out = loopF l (wsOf l) l.length [] ∧ (Kd.int .i64).R 3 wr (g + 1) (fun k => g + 1 ≤ k) vo out ∧ Below n0 w wr ∧ g + 1 ≤ wr.heap.size ∧ DoneAt wr g l.length out) (fun vo _ => l.length - lenV vo)
              case atStart => exact ⟨[], by simp, rfl, Kd.R_nil _ _ _ _ _, HB3.out, by rw [hsz3]; exact Nat.le_refl _, HD3.out⟩
              case round =>
                obtain ⟨out, hol, hLp, hR, hB, hsz, hDn⟩ := hrel
                obtain ⟨Ao, co, rfl, hoc, hoC⟩ := Kd.R_reads hR
                have HLp := Lib.hid hLp
                have HR4 := Lib.hid hR
                have HB := Lib.hid hB
                have HDn := Lib.hid hDn
                have HoC := Lib.hid hoC
                have hm4 : out.length < l.length ∨ out.length = l.length := by omega
                clear hLp hR hB hDn hoC hmk hsz3
                rcases hm4 with hlt | heq
                · obtain ⟨K, hK⟩ : ∃ K, stepF l (wsOf l) out = K := ⟨_, rfl⟩
                  obtain ⟨qf, hqf⟩ : ∃ qf, (fun x : S27 => nextP out (findF l x.f0) ((wsOf l).getD (findF l x.f0).toNat [])) = qf := ⟨_, rfl⟩
                  have hK2 : idxF qf l 0 = K := by rw [← hqf]; exact hK
                  have HKr := Lib.hid (by have := idxF_range qf l 0; rw [hK2] at this; exact this)
                  have hq : ∀ (i : Nat) x, l[i]? = some x → qf x = (!(out.contains (i : Int)) && (needL l (ofF x.f1)).all fun k => out.contains k) := by
                    intro i x hx
                    have h1 := namesG_at l l 0 HNames.out i x hx
                    rw [show ((0 + i : Nat) : Int) = (i : Int) by omega] at h1
                    rw [← hqf]
                    dsimp only
                    rw [h1, wsOf_at l i x hx]
                    rfl
                  have HQf := Lib.hid hq
                  have HK2 := Lib.hid hK2
                  have hL2 := HLp.out
                  rw [show l.length - out.length = (l.length - (out.length + 1)) + 1 by omega] at hL2
                  simp only [loopF, hK] at hL2
                  have HL2 := Lib.hid hL2
                  clear hK hqf hK2 hq hL2 HLp
                  obtain ⟨wo, hwo⟩ : ∃ wo, wr = wo := ⟨_, rfl⟩
                  rw [hwo] at HR4 HB HDn HoC hsz ⊢
                  clear hwo
                  go_wp2_with fail
                  go_loopw [12, 13] (fun av iv wr2 => ∃ i : Nat, i ≤ l.length ∧ iv = .int .i64 i ∧ ((av = .int .i64 (-1) ∧ idxF qf (l.drop i) i = K) ∨ (av = .int .i64 K ∧ 0 ≤ K)) ∧ Below wo.heap.size wo wr2) (fun _ iv _ => l.length - (intOf iv).toNat)
                  case atStart => exact ⟨0, by omega, rfl, .inl ⟨rfl, HK2.out⟩, Below.refl _ _⟩
                  case round =>
                    obtain ⟨i, hi, rfl, hav, hb⟩ := hrel
                    have HBo := Lib.hid hb
                    have HBn := Lib.hid (HB.out.trans (hb.mono (by rw [← HB0.out]; exact HB.out.size)))
                    have hDi := HDn.out.below hb
                    have HDi := Lib.hid hDi
                    clear hb
                    have h3w : (i < l.length ∧ u12 = .int .i64 (-1) ∧ idxF qf (l.drop i) i = K) ∨ (u12 = .int .i64 K ∧ ((i < l.length ∧ 0 ≤ K) ∨ i = l.length)) := by
                      rcases hav with ⟨h1, h2⟩ | ⟨h1, h2⟩
                      · by_cases hil : i < l.length
                        · exact .inl ⟨hil, h1, h2⟩
                        · have e : i = l.length := by omega
                          rw [e, List.drop_length] at h2
                          exact .inr ⟨by rw [h1, ← h2]; rfl, .inr e⟩
                      · by_cases hil : i < l.length
                        · exact .inr ⟨h1, .inl ⟨hil, h2⟩⟩
                        · exact .inr ⟨h1, .inr (by omega)⟩
                    clear hav
                    rcases h3w with ⟨hil, rfl, hix⟩ | ⟨rfl, hend⟩
                    · have hrd := rd27 l i hil
                      have hmem := List.mem_of_getElem? hrd
                      have hd : l.drop i = rd_T27 l i :: l.drop (i + 1) := by
                        rw [List.drop_eq_getElem_cons hil]
                        congr 1
                        exact Option.some.inj ((List.getElem?_eq_getElem hil).symm.trans hrd)
                      have hix2 := hix
                      rw [hd] at hix2
                      simp only [idxF] at hix2
                      have hqi := HQf.out i _ hrd
                      have hbad : badL (needL l (ofF (rd_T27 l i).f1)) = false := by
                        have := HWs.out
                        rw [List.any_eq_false] at this
                        simpa using this _ hmem
                      have hre := ready_any l i out A c g wr (Kd.C_below HL.out (by rw [HB0.out]; exact HBn.out)) hc (by omega) hil (HF.out _ hmem) hbad HDi.out
                      obtain ⟨σ, hσ⟩ : ∃ σ, ((needL l (ofF (rd_T27 l i).f1)).all fun k => out.contains k) = σ := ⟨_, rfl⟩
                      rw [hσ] at hre hqi
                      obtain ⟨cur, hc1, hc2, hc3⟩ := hDi
                      have hgi : wr.cell? ⟨g, i, none⟩ = some (.bool (out.contains (i : Int))) := by rw [bk_cell hc1 i, hc3 i hil]
                      obtain ⟨τ, hτ⟩ : ∃ τ, out.contains (i : Int) = τ := ⟨_, rfl⟩
                      rw [hτ] at hqi hgi
                      rw [hqi] at hix2
                      have HIx := Lib.hid hix2
                      have HRe := Lib.hid hre
                      clear hrd hmem hd hix hix2 hqi hbad hre hσ hc1 hc2 hc3 hτ
                      cases τ
                      · go_wp2_with fail
                        refine HRe.out.mono ?_
                        rintro e w5 ⟨rfl, hb5⟩
                        have HBo5 := Lib.hid (HBo.out.trans (hb5.mono HBo.out.size))
                        clear hb5 HRe
                        cases σ
                        · go_wp2_with fail
                          go_roundw
                          case rel => exact ⟨i + 1, by omega, by go_num, .inl ⟨rfl, by have := HIx.out; simpa using this⟩, HBo5.out⟩
                          case measure => simp [intOf]; omega
                        · have hKi : (i : Int) = K := by have := HIx.out; simpa using this
                          have HKi := Lib.hid hKi
                          clear hKi
                          go_wp2_with fail
                          go_roundw
                          case rel => exact ⟨i + 1, by omega, by go_num, .inr ⟨by rw [HKi.out], by rw [← HKi.out]; omega⟩, HBo5.out⟩
                          case measure => simp [intOf]; omega
                      · go_wp2_with fail
                        go_roundw
                        case rel => exact ⟨i + 1, by omega, by go_num, .inl ⟨rfl, by have := HIx.out; simpa using this⟩, HBo.out⟩
                        case measure => simp [intOf]; omega
                    · by_cases hneg : K < 0
                      · have hil : i = l.length := by
                          rcases hend with ⟨_, h⟩ | h
                          · omega
                          · exact h
                        subst hil
                        have hnm : R = ([], 10) := by
                          have h1 := HL2.out
                          rw [if_pos hneg] at h1
                          rw [← HR.out]
                          unfold orderF
                          rw [HNames.out, HTrees.out, waitsG_eq, HWs.out]
                          simp only [if_true, Bool.false_eq_true, if_false, List.nil_append]
                          rw [show (l.map fun x => needL l (ofF x.f1)) = wsOf l from rfl, ← h1]
                        have HRn := Lib.hid hnm
                        clear hnm HL2 hend hDi
                        go_wp2_with fail
                        go_ret2
                        rw [HRn.out]
                        exact ⟨⟨none, 0, rfl, Nat.le_refl _, Kd.C_nil _ _⟩, HBn.out⟩
                      · obtain ⟨k, hk, rfl⟩ : ∃ k, k < l.length ∧ K = (k : Int) := by
                          rcases HKr.out with h | ⟨j, h1, h2⟩
                          · omega
                          · exact ⟨j, h1, by rw [h2]; congr 1; omega⟩
                        have hL3 : loopF l (wsOf l) (l.length - (out.length + 1)) (out ++ [(k : Int)]) = loopF l (wsOf l) l.length [] := by
                          have h1 := HL2.out
                          rw [if_neg hneg] at h1
                          exact h1
                        have HL3 := Lib.hid hL3
                        obtain ⟨cur, hc1, hc2, hc3⟩ := hDi
                        have hgk : wr.cell? ⟨g, k, none⟩ = some (.bool (out.contains (k : Int))) := by rw [bk_cell hc1 k, hc3 k hk]
                        have hgf : wr.frozen? ⟨g, k, none⟩ = false := bk_frozen hc1 k
                        have HD2 := Lib.hid (HDi.out.set hk)
                        have HR5 := Lib.hid (Kd.R_far (p := ⟨g, k, none⟩) (Kd.R_below HR4.out HBo.out) (fun q hq => by simp only; omega) (.bool true))
                        have HBs := Lib.hid (HBn.out.setCell (p := ⟨g, k, none⟩) hn0 (.bool true))
                        have hwo := HBo.out.size
                        have hszw : g + 1 ≤ (wr.setCell ⟨g, k, none⟩ (.bool true)).heap.size := by simp; exact Nat.le_trans hsz HBo.out.size
                        obtain ⟨τ, hτ⟩ : ∃ τ, out.contains (k : Int) = τ := ⟨_, rfl⟩
                        rw [hτ] at hgk
                        clear hL3 HL2 hc1 hc2 hc3 hτ HKr
                        have hk0 : ¬ ((k : Int) < 0) := hneg
                        rcases hend with ⟨hil, hK0⟩ | hil
                        all_goals
                          (try subst hil)
                          go_wp2_with ((with_reducible refine gate_builtin (b := .append) (xs := #[.tmp 109, .tmp 111]) rfl ?_); at_builtin; refine Kd.R_append (Kd.int .i64) (w0 := wr.setCell ⟨g, k, none⟩ (.bool true)) (g + 1) rfl (.tmp 109) (.tmp 111) 28 3 (.int .i64 0) 8 rfl Try.underlying28 info3 rfl (by decide) (by omega) (.slice Ao out.length co) out (k : Int) [.int .i64 (k : Int)] (fun k => g + 1 ≤ k) (fun _ => False) rfl (by first | rfl | (rw [World.size_setCell]; rfl)) ?aP (fun _ hk => hk.elim) ?aF ?aO ?aB ?aS ?aL ?_; (case aP => exact rfl); (case aF => intro k hk; (try simp at hk); omega); (case aO => exact HR5.out); (case aB => exact Below.refl _ _); (case aS => first | exact hszw | (simp; omega)); (case aL => omega); intro v1 w6 ho hb6 hg6 hat; obtain ⟨A7, c7, rfl⟩ := Kd.R_slice ho; rw [List.length_append, List.length_singleton] at ho; have HO6 := Lib.hid ho; have HB6 := Lib.hid hb6; clear ho hb6 hg6 hat)
                          go_roundw
                          case rel => exact ⟨out ++ [(k : Int)], by simp; omega, by rw [List.length_append, List.length_singleton]; exact HL3.out, HO6.out, HBs.out.trans (HB6.out.mono (by omega)), Nat.le_trans (by simp; omega) HB6.out.size, HD2.out.block (HB6.out.block g (by omega))⟩
                          case measure => simp only [lenV]; omega
                · have hnm : R = (out, 0) := by
                    have h1 := HLp.out
                    rw [heq, Nat.sub_self] at h1
                    rw [← HR.out]
                    unfold orderF
                    rw [HNames.out, HTrees.out, waitsG_eq, HWs.out]
                    simp only [if_true, Bool.false_eq_true, if_false, List.nil_append]
                    rw [show (l.map fun x => needL l (ofF x.f1)) = wsOf l from rfl, ← h1]
                    rfl
                  have HRn := Lib.hid hnm
                  have HHe := Lib.hid heq
                  have hnl : ¬ ((out.length : Int) < l.length) := by omega
                  clear hnm HLp
                  go_wp2_with fail
                  go_ret2
                  rw [HRn.out]
                  refine ⟨⟨Ao, co, ?_, hoc, HoC.out⟩, HB.out⟩
                  rw [HHe.out]
                  rfl
end Go.Proofs.Ytbmjdkbakeckoaa
namespace Go.Proofs.Ytbmjdkbakeckoaa
open Go Go.RowKit Go.Proofs.YtbmjdkbakeckoaaW.PrintWords Go.Proofs.YtbmjdkbakeckoaaW.PrintLast Go.Proofs.YtbmjdkbakeckoaaW.PrintMore Go.Proofs.Ytbmjdkbakeckoaa.PRefsAll
set_option maxRecDepth 100000
set_option linter.unusedSimpArgs false
set_option linter.unusedVariables false
set_option maxHeartbeats 4000000

theorem great_parts (l : List S47) (i : Nat) (hi : i < l.length) (hi2 : i < 100) (hp : (rd_T47 l i).f3.length ≤ 60) (K : Nat) (P : Prop) (hK : ∀ k, K ≤ k → ∃ r, doorkeeperlaw2_Great.l0 k l ((i : Int) + 1) = some r ∧ (r = false → P)) :
    ∀ (e j k : Nat), j + e = (rd_T47 l i).f3.length → K + e + 1 ≤ k → ∃ r, doorkeeperlaw2_Great.l1 k l i j = some r ∧ (r = false → (∀ q, j ≤ q → q < (rd_T47 l i).f3.length → (rd_T51 (rd_T47 l i).f3 (q : Int)).f1.size ≤ 300) ∧ P)
  | 0, j, k, hj, hk => by
    obtain ⟨k, rfl⟩ : ∃ m, k = m + 1 := ⟨k - 1, by omega⟩
    have hw : wrap64 ((i : Int) + 1) = (i : Int) + 1 := by unfold wrap64; omega
    obtain ⟨r, h1, h2⟩ := hK k (by omega)
    refine ⟨r, ?_, fun hr => ⟨fun q a b => by omega, h2 hr⟩⟩
    simp only [doorkeeperlaw2_Great.l1]
    rw [if_pos (by omega), if_pos (by omega), if_neg (by omega), hw, h1]
  | e + 1, j, k, hj, hk => by
    obtain ⟨k, rfl⟩ : ∃ m, k = m + 1 := ⟨k - 1, by omega⟩
    have hw : wrap64 ((j : Int) + 1) = ((j + 1 : Nat) : Int) := by unfold wrap64; omega
    obtain ⟨r, h1, h2⟩ := great_parts l i hi hi2 hp K P hK e (j + 1) k (by omega) (by omega)
    simp only [doorkeeperlaw2_Great.l1]
    rw [if_pos (by omega), if_pos (by omega), if_pos (by omega), if_pos (by omega), hw]
    by_cases h : ((rd_T51 (rd_T47 l i).f3 (j : Int)).f1.size : Int) > 300
    · rw [if_pos h]
      exact ⟨true, rfl, fun e => by cases e⟩
    · rw [if_neg h]
      refine ⟨r, h1, fun hr => ⟨fun q a b => ?_, (h2 hr).2⟩⟩
      by_cases hq : q = j
      · subst hq; omega
      · exact (h2 hr).1 q (by omega) b
def NodeFits (x : S47) : Prop := x.f2.size ≤ 300 ∧ x.f3.length ≤ 100 ∧ (∀ p ∈ x.f3, p.f1.size ≤ 300) ∧ x.f4.length ≤ 100
theorem great_loop (l : List S47) : ∀ (d i k : Nat), i + d = min l.length 100 → d * 70 + 10 ≤ k → ∃ r, doorkeeperlaw2_Great.l0 k l i = some r ∧ (r = false → l.length ≤ 80 ∧ ∀ q, i ≤ q → q < l.length → NodeFits (rd_T47 l q))
  | 0, i, k, hi, hk => by
    obtain ⟨k, rfl⟩ : ∃ m, k = m + 2 := ⟨k - 2, by omega⟩
    have hj : doorkeeperlaw2_Great.j1 (k + 1) l i false = some (decide ((l.length : Int) > 80)) := by
      simp only [doorkeeperlaw2_Great.j1, Bool.false_eq_true, if_false]
    refine ⟨decide ((l.length : Int) > 80), ?_, fun hr => ?_⟩
    · simp only [doorkeeperlaw2_Great.l0]
      by_cases h : (i : Int) < l.length
      · rw [if_pos h, decide_eq_false (by omega)]
        exact hj
      · rw [if_neg h]
        exact hj
    · have := of_decide_eq_false hr
      exact ⟨by omega, fun q a b => by omega⟩
  | d + 1, i, k, hi, hk => by
    obtain ⟨k, rfl⟩ : ∃ m, k = m + 3 := ⟨k - 3, by omega⟩
    have hlt : i < l.length := by omega
    have hi2 : i < 100 := by omega
    have hK := fun k' (hk' : d * 70 + 10 ≤ k') => great_loop l d (i + 1) k' (by omega) hk'
    simp only [doorkeeperlaw2_Great.l0]
    rw [if_pos (by omega), decide_eq_true (by omega)]
    simp only [doorkeeperlaw2_Great.j1]
    rw [if_pos trivial, if_pos (by omega), if_pos (by omega)]
    have hj2 : ∀ b, doorkeeperlaw2_Great.j2 (k + 1) l i b = if b = true then some true else doorkeeperlaw2_Great.l1 k l i 0 := fun b => rfl
    by_cases h4 : ((rd_T47 l i).f4.length : Int) > 100
    · rw [if_pos h4, hj2]
      exact ⟨true, rfl, fun e => by cases e⟩
    rw [if_neg h4]
    by_cases h2 : ((rd_T47 l i).f2.size : Int) > 300
    · rw [if_pos h2, hj2]
      exact ⟨true, rfl, fun e => by cases e⟩
    rw [if_neg h2, hj2]
    by_cases h3 : ((rd_T47 l i).f3.length : Int) > 60
    · rw [decide_eq_true h3]
      exact ⟨true, rfl, fun e => by cases e⟩
    rw [decide_eq_false h3]
    simp only [Bool.false_eq_true, if_false]
    obtain ⟨r, h5, h6⟩ := great_parts l i hlt hi2 (by omega) (d * 70 + 10) _ (fun k' hk' => by
      have := hK k' hk'
      rw [show ((i + 1 : Nat) : Int) = (i : Int) + 1 by omega] at this
      exact this) (rd_T47 l i).f3.length 0 k (by omega) (by omega)
    rw [show ((0 : Nat) : Int) = 0 from rfl] at h5
    refine ⟨r, h5, fun hr => ?_⟩
    obtain ⟨h7, h8, h9⟩ := h6 hr
    refine ⟨h8, fun q a b => ?_⟩
    by_cases hq : q = i
    · subst hq
      refine ⟨by omega, by omega, fun p hp => ?_, by omega⟩
      obtain ⟨j, hj⟩ := List.getElem?_of_mem hp
      have hjl : j < (rd_T47 l q).f3.length := (List.getElem?_eq_some_iff.1 hj).1
      have := h7 j (by omega) hjl
      have e : rd_T51 (rd_T47 l q).f3 (j : Int) = p := by
        unfold rd_T51
        rw [List.getD_eq_getElem?_getD, show ((j : Int)).toNat = j by omega, hj]
        rfl
      rw [e] at this
      exact this
    · exact h9 q (by omega) b
theorem great_any (l : List S47) (A : Option Addr) (c : Nat) (w : World) (hl : Kd.C k47 w A l.length l) (hc : l.length ≤ c) :
    Calls Try.prog 7 #[.slice A l.length c] w fun e w' => (∃ r, e = .returned (.bool r) ∧ (r = false → Fits l)) ∧ Below w.heap.size w w' := by
  obtain ⟨r, h1, h2⟩ := great_loop l (min l.length 100) 0 (100 * 70 + 10) (by omega) (by omega)
  refine (doorkeeperlaw2_Great.calls (100 * 70 + 10) A c l r w hl hc ?_).mono ?_
  · unfold doorkeeperlaw2_Great.f
    rw [show ((0 : Nat) : Int) = 0 from rfl] at h1
    exact h1
  · rintro e w' ⟨rfl, h⟩
    refine ⟨⟨r, rfl, fun hr => ?_⟩, h.below⟩
    obtain ⟨h3, h4⟩ := h2 hr
    refine ⟨by omega, fun x hx => ?_⟩
    obtain ⟨j, hj⟩ := List.getElem?_of_mem hx
    have hjl : j < l.length := (List.getElem?_eq_some_iff.1 hj).1
    have := h4 j (by omega) hjl
    have e : rd_T47 l (j : Int) = x := Option.some.inj ((rd47 l j hjl).symm.trans hj)
    rw [e] at this
    exact this

theorem texts_loop (l : List ByteArray) (hl : l.length ≤ 1000000) : ∀ (d i k : Nat), i + d = l.length → d + 1 ≤ k → doorkeeperref1_Texts.l0 k l l i = some true
  | 0, i, k, hi, hk => by
    obtain ⟨k, rfl⟩ : ∃ m, k = m + 1 := ⟨k - 1, by omega⟩
    simp only [doorkeeperref1_Texts.l0]
    rw [if_neg (by omega)]
  | d + 1, i, k, hi, hk => by
    obtain ⟨k, rfl⟩ : ∃ m, k = m + 1 := ⟨k - 1, by omega⟩
    have hw : wrap64 ((i : Int) + 1) = ((i + 1 : Nat) : Int) := by unfold wrap64; omega
    simp only [doorkeeperref1_Texts.l0]
    rw [if_pos (by omega), if_pos (by omega), if_pos (by omega), if_pos trivial, hw]
    exact texts_loop l hl d (i + 1) k (by omega) (by omega)
theorem texts_any (l : List ByteArray) (A B : Option Addr) (a b : Nat) (w : World) (hl : l.length ≤ 1000000) (h1 : Kd.string.C w A l.length l) (ha : l.length ≤ a) (h2 : Kd.string.C w B l.length l) (hb : l.length ≤ b) :
    Calls Try.prog 11 #[.slice A l.length a, .slice B l.length b] w fun e w' => e = .returned (.bool true) ∧ Below w.heap.size w w' := by
  refine (doorkeeperref1_Texts.calls (l.length + 1) A a l B b l true w h1 ha h2 hb ?_).mono ?_
  · unfold doorkeeperref1_Texts.f
    rw [if_pos rfl]
    exact texts_loop l hl l.length 0 _ (by omega) (by omega)
  · rintro e w' ⟨rfl, h⟩
    exact ⟨rfl, h.below⟩
theorem ints_loop (l : List Int) (hl : l.length ≤ 1000000) : ∀ (d i k : Nat), i + d = l.length → d + 1 ≤ k → doorkeeperref1_Ints.l0 k l l i = some true
  | 0, i, k, hi, hk => by
    obtain ⟨k, rfl⟩ : ∃ m, k = m + 1 := ⟨k - 1, by omega⟩
    simp only [doorkeeperref1_Ints.l0]
    rw [if_neg (by omega)]
  | d + 1, i, k, hi, hk => by
    obtain ⟨k, rfl⟩ : ∃ m, k = m + 1 := ⟨k - 1, by omega⟩
    have hw : wrap64 ((i : Int) + 1) = ((i + 1 : Nat) : Int) := by unfold wrap64; omega
    simp only [doorkeeperref1_Ints.l0]
    rw [if_pos (by omega), if_pos (by omega), if_pos (by omega), if_pos trivial, hw]
    exact ints_loop l hl d (i + 1) k (by omega) (by omega)
theorem ints_any (l : List Int) (A B : Option Addr) (a b : Nat) (w : World) (hl : l.length ≤ 1000000) (h1 : (Kd.int .i64).C w A l.length l) (ha : l.length ≤ a) (h2 : (Kd.int .i64).C w B l.length l) (hb : l.length ≤ b) :
    Calls Try.prog 14 #[.slice A l.length a, .slice B l.length b] w fun e w' => e = .returned (.bool true) ∧ Below w.heap.size w w' := by
  refine (doorkeeperref1_Ints.calls (l.length + 1) A a l B b l true w h1 ha h2 hb ?_).mono ?_
  · unfold doorkeeperref1_Ints.f
    rw [if_pos rfl]
    exact ints_loop l hl l.length 0 _ (by omega) (by omega)
  · rintro e w' ⟨rfl, h⟩
    exact ⟨rfl, h.below⟩
theorem num_any (x : Int) (w : World) : Calls Try.prog 15 #[.int .i64 x] w fun e w' => e = .returned (.int .i64 x) ∧ Below w.heap.size w w' :=
  (doorkeeperlaw1_Num.calls x x w rfl).mono fun e w' h => ⟨h.1, h.2.below⟩

/-- The example: one node alone. -/
def nodeX : S47 := ⟨4, 0, ⟨#[118, 97, 114, 46, 120]⟩, [], []⟩
def nodeN : S47 := ⟨1, 0, ⟨#[]⟩, [], []⟩
theorem ofX : ofF [nodeX] = [⟨#[118, 97, 114, 46, 120]⟩] := by
  have h : treeP [nodeX] = true := by kernel_rfl
  unfold ofF
  rw [if_pos h, once_fold]
  rfl
theorem ofN : ofF [nodeN] = [] := by
  have h : treeP [nodeN] = true := by kernel_rfl
  unfold ofF
  rw [if_pos h, once_fold]
  rfl
end Go.Proofs.Ytbmjdkbakeckoaa
namespace Go.Proofs.Ytbmjdkbakeckoaa
open Go Go.RowKit Go.Proofs.YtbmjdkbakeckoaaW.PrintWords Go.Proofs.YtbmjdkbakeckoaaW.PrintLast Go.Proofs.YtbmjdkbakeckoaaW.PrintMore Go.Proofs.Ytbmjdkbakeckoaa.PRefsAll
set_option maxRecDepth 100000
set_option linter.unusedSimpArgs false
set_option linter.unusedVariables false
set_option maxHeartbeats 4000000

/-- A node alone, with neither parts nor kids, read from its block. -/
theorem one_node {w : World} {b : Nat} (k n : Int) (t : ByteArray) (h : w.heap[b]? = some (.cells #[.int .i64 k, .int .i64 n, .string t, .slice none 0 0, .slice none 0 0] 47 (0, 0))) : Kd.C k47 w (some ⟨b, 0, none⟩) [(⟨k, n, t, [], []⟩ : S47)].length [⟨k, n, t, [], []⟩] := by
  refine ⟨rfl, by simp, fun _ => ⟨⟨b, 0, none⟩, rfl, fun j p hj => ?_⟩⟩
  obtain ⟨rfl, rfl⟩ : j = 0 ∧ p = ⟨k, n, t, [], []⟩ := by
    cases j with
    | zero => exact ⟨rfl, by simpa using hj.symm⟩
    | succ j => simp at hj
  refine ⟨[.int .i64 k, .int .i64 n, .string t, .slice none 0 0, .slice none 0 0], rfl, k47_mk w ⟨k, n, t, [], []⟩ (A3 := none) (c3 := 0) (Nat.le_refl _) (Kd.C_nil _ _) (A4 := none) (c4 := 0) (Nat.le_refl _) (Kd.C_nil _ _), fun i u hu => ?_⟩
  have e : (⟨b, 0, none⟩ : Addr).add (0 * k47.sz + i) = ⟨b, i, none⟩ := by rw [Nat.zero_mul, Nat.zero_add]; unfold Addr.add; split <;> simp_all
  rw [e, bk_cell h, ← Array.getElem?_toList]
  exact hu

theorem awake_any (m : Int) (w : World) (hm : w.cell? ⟨0, 0, none⟩ = some (.int .i64 m)) : Calls Try.prog 8 #[] w fun e w' => e = .returned (.bool true) ∧ Below w.heap.size w w' := by
  have fit : ∀ (k : Int) (t : ByteArray), t.size ≤ 300 → Fits [(⟨k, 0, t, [], []⟩ : S47)] := fun k t ht => ⟨by simp, fun x hx => by
    obtain rfl := List.mem_singleton.1 hx
    exact ⟨ht, by simp, fun p hp => (by cases hp), by simp⟩⟩
  have hn : 0 < w.heap.size := World.block_lt_of_cell? w _ hm
  obtain ⟨W, hW⟩ : ∃ W, W = w.alloc (Obj.cells #[Value.int .i64 4, Value.int .i64 0, Value.string ⟨#[118, 97, 114, 46, 120]⟩, Value.slice none 0 0, Value.slice none 0 0] 47) := ⟨_, rfl⟩
  have hbW : Below w.heap.size w W := by rw [hW]; exact (Below.refl _ _).alloc (Nat.le_refl _) _
  have H1 := Lib.hid (of_any [nodeX] (some ⟨w.heap.size, 0, none⟩) 1 m W (cell_below hbW hm) (fit 4 _ (by decide)) (one_node 4 0 _ (by rw [hW]; exact bk_new _ _)))
  have H2 := Lib.hid (fun (V : World) (hV : Below w.heap.size w V) => of_any [nodeN] (some ⟨V.heap.size, 0, none⟩) 1 m (V.alloc (Obj.cells #[Value.int .i64 1, Value.int .i64 0, Value.string ⟨#[]⟩, Value.slice none 0 0, Value.slice none 0 0] 47))
    (cell_alloc _ ((hV.cell (p := ⟨0, 0, none⟩) hn).trans hm)) (fit 1 _ (by decide)) (one_node 1 0 _ (bk_new _ _)))
  rw [ofX] at H1
  rw [ofN] at H2
  have HW := Lib.hid hW
  have HbW := Lib.hid hbW
  clear hm fit hW hbW
  go_enter Try.func8, Try.ntmps8
  go_wp2_with fail
  rw [← HW.out]
  refine H1.out.mono ?_
  rintro e w1 ⟨⟨A1, c1, rfl, hc1, hC1⟩, hb1⟩
  obtain ⟨b, o, rfl, hb, hcell⟩ := string_cells hC1 0 (by simp)
  have HB1 := Lib.hid (HbW.out.trans (hb1.mono HbW.out.size))
  have q0 : w1.cell? ⟨b, o, none⟩ = some (.string ⟨#[118, 97, 114, 46, 120]⟩) := hcell
  have q1 := Lib.hid q0
  clear hC1 hb1 H1 hcell q0
  go_wp2_with fail
  refine (H2.out w1 HB1.out).mono ?_
  rintro e w2 ⟨⟨A2, c2, rfl, hc2, hC2⟩, hb2⟩
  have hb12 : Below w1.heap.size w1 w2 := ((Below.refl _ _).alloc (Nat.le_refl _) _).trans (hb2.mono (by simp))
  have q2 := cell_below hb12 q1.out
  have HB2 := Lib.hid (HB1.out.trans (hb12.mono HB1.out.size))
  clear hb2 hb12 hC2 H2
  go_wp2_with fail
  go_ret
  exact ⟨by first | rfl | simp, HB2.out⟩

theorem orderF_len (l : List S27) (hl : l.length ≤ 100) : (orderF l).1.length ≤ 100 := by
  have h : ∀ (d : Nat) (ws : List (List Int)) (out o : List Int), loopF l ws d out = some o → o.length ≤ out.length + d := by
    intro d
    induction d with
    | zero => intro ws out o h; simp only [loopF, Option.some.injEq] at h; subst h; exact Nat.le_refl _
    | succ d ih =>
      intro ws out o h
      simp only [loopF] at h
      split at h
      · cases h
      · have := ih ws _ o h
        rw [List.length_append, List.length_singleton] at this
        omega
  unfold orderF
  split
  · split
    · split
      · simp
      · split
        · simp
        · rename_i ho
          have := h _ _ _ _ ho
          simp only [List.length_nil] at this
          dsimp only
          omega
    · simp
  · simp

theorem refsAll_any (l : List S47) (a : List S27) (A B : Option Addr) (c d : Nat) (m : Int) (w : World) (hm : w.cell? ⟨0, 0, none⟩ = some (.int .i64 m)) (hl : Kd.C k47 w A l.length l) (hc : l.length ≤ c) (ha : Kd.C k27 w B a.length a) (hd : a.length ≤ d) :
    Calls Try.prog 3 #[.slice A l.length c, .slice B a.length d] w fun e w' => e = .returned (.bool true) ∧ Below w.heap.size w w' := by
  have hn : 0 < w.heap.size := World.block_lt_of_cell? w _ hm
  have HM := Lib.hid (fun (V : World) (hV : Below w.heap.size w V) => (hV.cell (p := ⟨0, 0, none⟩) hn).trans hm)
  have HAw := Lib.hid (fun (V : World) (hV : Below w.heap.size w V) => awake_any m V (HM.out V hV))
  have HG := Lib.hid (great_any l A c w hl hc)
  have HL := Lib.hid hl
  have HA := Lib.hid ha
  clear hm hl ha
  go_enter Try.func3, Try.ntmps3
  go_wp2_with fail
  refine HG.out.mono ?_
  rintro e w1 ⟨⟨r, rfl, hr⟩, hb1⟩
  have HB1 := Lib.hid hb1
  have HR := Lib.hid hr
  clear hb1 hr HG
  cases r
  rotate_left
  · go_wp2_with fail
    refine (HAw.out _ HB1.out).mono ?_
    rintro e w2 ⟨rfl, hb2⟩
    have HB2 := Lib.hid (HB1.out.trans (hb2.mono HB1.out.size))
    clear hb2
    go_wp2_with fail
    go_ret
    exact ⟨rfl, HB2.out⟩
  · have HFl := Lib.hid (HR.out rfl)
    clear HR
    by_cases h30 : (a.length : Int) > 30
    · go_wp2_with fail
      refine (HAw.out _ HB1.out).mono ?_
      rintro e w2 ⟨rfl, hb2⟩
      have HB2 := Lib.hid (HB1.out.trans (hb2.mono HB1.out.size))
      clear hb2
      go_wp2_with fail
      go_ret
      exact ⟨rfl, HB2.out⟩
    · have h30b : (a.length : Int) ≤ 30 := by omega
      have h30n : a.length ≤ 30 := by omega
      go_wp2_with fail
      go_loopw [5] (fun iv wr => ∃ i : Nat, i ≤ a.length ∧ iv = .int .i64 i ∧ (∀ j, j < i → Fits (rd_T27 a j).f1) ∧ Below w.heap.size w wr) (fun iv _ => a.length - (intOf iv).toNat)
      case atStart => exact ⟨0, by omega, rfl, fun j hj => absurd hj (by omega), HB1.out⟩
      case round =>
        obtain ⟨i, hi, rfl, hF, hB⟩ := hrel
        have HF := Lib.hid hF
        have HB := Lib.hid hB
        clear hF hB
        by_cases hlt : i < a.length
        · obtain ⟨β, o, A1, c1, rfl, hβ, q0, q1, h2, h3⟩ := attr_cells HA.out i hlt
          have q0 := (HB.out.cell (p := ⟨β, o + i * 2, none⟩) hβ).trans q0
          have q1 := (HB.out.cell (p := ⟨β, o + i * 2 + 1, none⟩) hβ).trans q1
          have HN := Lib.hid (fun (h : Fits (rd_T27 a i).f1) => show ∀ j, j < i + 1 → Fits (rd_T27 a j).f1 from fun j hj => by
            by_cases hq : j = i
            · subst hq; exact h
            · exact HF.out j (by omega))
          have HGr := Lib.hid (great_any (rd_T27 a i).f1 A1 c1 wr (Kd.C_below h3 HB.out) h2)
          obtain ⟨x, hx⟩ : ∃ x, rd_T27 a i = x := ⟨_, rfl⟩
          rw [hx] at q0 q1 HN HGr
          obtain ⟨t, ex⟩ := x
          dsimp only at q0 q1 HN HGr
          clear h2 h3 hx HF
          go_wp2_with fail
          refine HGr.out.mono ?_
          rintro e w2 ⟨⟨r, rfl, hr⟩, hb2⟩
          have HR := Lib.hid hr
          have hbo := HB.out.trans (hb2.mono HB.out.size)
          have q2 := cell_below hb2 q0
          have HB2 := Lib.hid hbo
          clear hb2 hr HGr hbo
          cases r
          rotate_left
          · go_wp2_with fail
            refine (HAw.out _ HB2.out).mono ?_
            rintro e w3 ⟨rfl, hb3⟩
            have HB3 := Lib.hid (HB2.out.trans (hb3.mono HB2.out.size))
            clear hb3
            go_wp2_with fail
            go_ret
            exact ⟨rfl, HB3.out⟩
          · by_cases h100 : (t.size : Int) > 100
            · go_wp2_with fail
              refine (HAw.out _ HB2.out).mono ?_
              rintro e w3 ⟨rfl, hb3⟩
              have HB3 := Lib.hid (HB2.out.trans (hb3.mono HB2.out.size))
              clear hb3
              go_wp2_with fail
              go_ret
              exact ⟨rfl, HB3.out⟩
            · have h100b : (t.size : Int) ≤ 100 := by omega
              go_wp2_with fail
              go_roundw
              case rel => exact ⟨i + 1, by omega, by go_num, HN.out (HR.out (by first | rfl | trivial)), HB2.out⟩
              case measure => simp [intOf]; omega
        · obtain rfl : i = a.length := by omega
          have hfit : Fit2 a := ⟨by omega, fun x hx => by
            obtain ⟨j, hj⟩ := List.getElem?_of_mem hx
            have hjl : j < a.length := (List.getElem?_eq_some_iff.1 hj).1
            have := HF.out j hjl
            rwa [Option.some.inj ((rd27 a j hjl).symm.trans hj)] at this⟩
          have hol := orderF_len a (by omega)
          have hof := ofF_len l HFl.out
          have HOr := Lib.hid (order_any a B d m wr (HM.out wr HB.out) (Kd.C_below HA.out HB.out) hfit)
          have HO4 := Lib.hid (fun V (hV : Below w.heap.size w V) => order4_any a B d V (Kd.C_below HA.out hV) hd hfit)
          have HOf := Lib.hid (fun V (hV : Below w.heap.size w V) => of_any l A c m V (HM.out V hV) HFl.out (Kd.C_below HL.out hV))
          have HOf4 := Lib.hid (fun V (hV : Below w.heap.size w V) => of4_any l A c V HFl.out (Kd.C_below HL.out hV))
          obtain ⟨⟨out, code⟩, hR⟩ : ∃ R, orderF a = R := ⟨_, rfl⟩
          rw [hR] at HOr HO4 hol
          dsimp only at HOr HO4 hol
          obtain ⟨rs, hrs⟩ : ∃ rs, ofF l = rs := ⟨_, rfl⟩
          rw [hrs] at HOf HOf4 hof
          clear hR hrs hfit HF
          go_wp2_with fail
          refine HOr.out.mono ?_
          rintro e w2 ⟨⟨A2, c2, rfl, hl2, hC2⟩, hb2⟩
          have HC2 := Lib.hid hC2
          have HB2 := Lib.hid (HB.out.trans (hb2.mono HB.out.size))
          clear hb2 hC2 HOr
          go_wp2_with fail
          refine (HO4.out _ HB2.out).mono ?_
          rintro e w3 ⟨⟨A3, c3, rfl, hl3, hC3⟩, hb3⟩
          have HC3 := Lib.hid hC3
          have HC23 := Lib.hid (Kd.C_below HC2.out hb3)
          have HB3 := Lib.hid (HB2.out.trans (hb3.mono HB2.out.size))
          clear hb3 hC3 HO4 HC2
          go_wp2_with fail
          refine (HOf.out _ HB3.out).mono ?_
          rintro e w4 ⟨⟨A4, c4, rfl, hl4, hC4⟩, hb4⟩
          have HC4 := Lib.hid hC4
          have HC24 := Lib.hid (Kd.C_below HC23.out hb4)
          have HC34 := Lib.hid (Kd.C_below HC3.out hb4)
          have HB4 := Lib.hid (HB3.out.trans (hb4.mono HB3.out.size))
          clear hb4 hC4 HOf HC23 HC3
          go_wp2_with fail
          refine (HOf4.out _ HB4.out).mono ?_
          rintro e w5 ⟨⟨A5, c5, rfl, hl5, hC5⟩, hb5⟩
          have HTx := Lib.hid (texts_any rs A4 A5 c4 c5 w5 (by omega) (Kd.C_below HC4.out hb5) hl4 hC5 hl5)
          have HC25 := Lib.hid (Kd.C_below HC24.out hb5)
          have HC35 := Lib.hid (Kd.C_below HC34.out hb5)
          have HB5 := Lib.hid (HB4.out.trans (hb5.mono HB4.out.size))
          clear hb5 hC5 HOf4 HC24 HC34 HC4
          go_wp2_with fail
          refine HTx.out.mono ?_
          rintro e w6 ⟨rfl, hb6⟩
          have HIn := Lib.hid (ints_any out A2 A3 c2 c3 w6 (by omega) (Kd.C_below HC25.out hb6) hl2 (Kd.C_below HC35.out hb6) hl3)
          have HB6 := Lib.hid (HB5.out.trans (hb6.mono HB5.out.size))
          clear hb6 HTx HC25 HC35
          go_wp2_with fail
          refine HIn.out.mono ?_
          rintro e w7 ⟨rfl, hb7⟩
          have HB7 := Lib.hid (HB6.out.trans (hb7.mono HB6.out.size))
          clear hb7 HIn
          go_wp2_with fail
          refine (num_any code w7).mono ?_
          rintro e w8 ⟨rfl, hb8⟩
          have HB8 := Lib.hid (HB7.out.trans (hb8.mono HB7.out.size))
          clear hb8
          go_wp2_with fail
          refine (HAw.out _ HB8.out).mono ?_
          rintro e w9 ⟨rfl, hb9⟩
          have HB9 := Lib.hid (HB8.out.trans (hb9.mono HB8.out.size))
          clear hb9
          go_wp2_with fail
          go_ret
          exact ⟨rfl, HB9.out⟩
end Go.Proofs.Ytbmjdkbakeckoaa
namespace Go.Proofs.Ytbmjdkbakeckoaa
open Go Go.RowKit Go.ChangeShapes Go.WideShapes Go.Deep Go.Proofs.YtbmjdkbakeckoaaW.PrintWords Go.Proofs.Ytbmjdkbakeckoaa.PRefsAll
set_option maxRecDepth 100000
set_option linter.unusedSimpArgs false
set_option linter.unusedVariables false
set_option maxHeartbeats 4000000

section
variable {H : Type} {enc : TypeId × Value → H} {P : Program} {w : World} {base : Nat} {spare : Nat → Bool} {held : Bool}
theorem open_slice_fields {t e : TypeId} {fs : Array Field} {fuel : Nat} {cs : List Value} {x : DataW H × List MemPlace} (ht : P.underlying t = some (.slice e)) (he : P.underlying e = some (.struct fs))
    (hone : oneCellFields P fs = true) (hC : P.cellsOf e = fs.size) (h : DataW.trod enc P w base spare held fuel t cs = some x) :
    (cs = [.slice none 0 0] ∧ x = (.nil, [])) ∨
    ∃ (a : Addr) (len cap m : Nat) (D : Nat → DataW H) (Pl : Nat → List MemPlace), cs = [.slice (some a) len cap] ∧ base ≤ a.block ∧ len ≤ cap ∧ cap ≤ maxLen ∧ m = (if spare a.block then cap else len) ∧
      x = (.slice ((List.range len).map D) ((List.range (m - len)).map fun j => D (len + j)), MemPlace.row a (m * fs.size) ++ (List.range m).flatMap Pl) ∧
      ∀ i, i < m → ∃ (ys : List (DataW H × List MemPlace)) (n : Nat), D i = .agg (ys.map (·.1)) ∧ Pl i = ys.flatMap (·.2) ∧ ys.length = fs.size ∧
        ∀ (j : Nat) (f : Field), fs[j]? = some f → ∃ (v : Value) (y : DataW H × List MemPlace), w.cell? (a.add (i * fs.size + j)) = some v ∧ ys[j]? = some y ∧ DataW.trod enc P w base spare held n f.type [v] = some y := by
  rcases open_slice ht h with h0 | ⟨a, len, cap, m, n, D, Pl, hcs, hb, hl, hm, hmm, hx, hi⟩
  · exact .inl h0
  · refine .inr ⟨a, len, cap, m, D, Pl, hcs, hb, hl, hm, hmm, by rw [hC] at hx; exact hx, fun i him => ?_⟩
    obtain ⟨cs', hc, ht'⟩ := hi i him
    rw [hC] at hc
    obtain ⟨ys, n', hn', hy, hlen, hyl, hf⟩ := DataW.trod_struct he ht'
    obtain ⟨_, hcl, hat⟩ := World.cells?_some hc
    simp only [Prod.mk.injEq] at hy
    refine ⟨ys, n', hy.1, hy.2, hyl, fun j f hj => ?_⟩
    obtain ⟨ho, hk⟩ := hone_of hone j f hj
    have hjl : j < fs.size := (Array.getElem?_eq_some_iff.1 hj).1
    have hcell := hat j hjl
    have hv : cs'[j]? = some (cs'[j]'(by omega)) := List.getElem?_eq_getElem (by omega)
    have h1 := hf j f hj
    rw [ho, hk] at h1
    have hone' : (cs'.drop j).take 1 = [cs'[j]'(by omega)] := by
      rw [List.drop_eq_getElem_cons (by omega)]
      rfl
    rw [hone'] at h1
    have hys : ys[j]? = some (ys[j]'(by omega)) := List.getElem?_eq_getElem (by omega)
    refine ⟨_, _, ?_, hys, h1.trans hys⟩
    rw [← Go.Deep.add_add, hcell, hv]

end
/-- A row whose elements are each read. -/
theorem C_of_all {α : Type} (d : Kd α) (w : World) (a : Addr) : ∀ (len : Nat), len ≤ 9223372036854775807 → (∀ i, i < len → ∃ (p : α) (c : List Value), c.length = d.sz ∧ d.K w p c ∧ ∀ j u, c[j]? = some u → w.cell? (a.add (i * d.sz + j)) = some u) → ∃ xs : List α, xs.length = len ∧ d.C w (some a) len xs
  | 0, h, _ => ⟨[], rfl, rfl, by simp, fun h => absurd h (by omega)⟩
  | n + 1, h, hi => by
    obtain ⟨xs, h1, h2⟩ := C_of_all d w a n (by omega) (fun i hn => hi i (by omega))
    obtain ⟨p, c, hc, hK, hcell⟩ := hi n (by omega)
    refine ⟨xs ++ [p], by simp [h1], by simp [h1], h, fun _ => ⟨a, rfl, fun j q hj => ?_⟩⟩
    by_cases hjn : j < n
    · rw [List.getElem?_append_left (by omega)] at hj
      obtain ⟨ad, e, hh⟩ := h2.2.2 (by omega)
      cases e
      exact hh j q hj
    · rw [List.getElem?_append_right (by omega)] at hj
      obtain rfl : j = n := by
        have := (List.getElem?_eq_some_iff.1 hj).1
        simp at this
        omega
      rw [h1, Nat.sub_self] at hj
      obtain rfl : p = q := by simpa using hj
      exact ⟨c, hc, hK, hcell⟩

section
variable {H : Type} {enc : TypeId × Value → H} {w : World} {base : Nat} {spare : Nat → Bool} {held : Bool} {fuel : Nat} {x : DataW H × List MemPlace}
theorem open28 {v : Value} (h : DataW.trod enc Try.prog w base spare held fuel 28 [v] = some x) : ∃ (A : Option Addr) (n c : Nat) (xs : List Int), v = .slice A n c ∧ xs.length = n ∧ n ≤ c ∧ (Kd.int .i64).C w A n xs := by
  rcases open_ints Try.underlying28 Try.underlying3 (by kernel_rfl) h with ⟨hc, _⟩ | ⟨a, len, cap, zs, hcs, hb, hl, hm, hz, hx, hcell, hwf⟩
  · simp only [List.cons.injEq, and_true] at hc
    exact ⟨none, 0, 0, [], hc, rfl, Nat.le_refl _, Kd.C_nil _ _⟩
  · simp only [List.cons.injEq, and_true] at hcs
    have hlz : len ≤ zs.length := by rw [hz]; split <;> omega
    have hm2 : cap ≤ 9223372036854775807 := hm
    obtain ⟨xs, h1, h2⟩ := C_of_all (Kd.int .i64) w a len (by omega) (fun i hi => ⟨zs.getD i 0, [.int .i64 (zs.getD i 0)], rfl, rfl, fun j u hj => by
      cases j with
      | zero =>
        obtain rfl : Value.int .i64 (zs.getD i 0) = u := by simpa using hj
        have := hcell i (by omega)
        rw [show i * (Kd.int .i64).sz + 0 = i from Nat.mul_one i]
        exact this
      | succ j => simp at hj⟩)
    exact ⟨some a, len, cap, xs, hcs, h1, hl, h2⟩
theorem open45 {v : Value} (h : DataW.trod enc Try.prog w base spare held fuel 45 [v] = some x) : ∃ (A : Option Addr) (n c : Nat) (xs : List S51), v = .slice A n c ∧ xs.length = n ∧ n ≤ c ∧ Kd.C k51 w A n xs := by
  rcases open_slice_fields Try.underlying45 Try.underlying51 (by kernel_rfl) (by kernel_rfl) h with ⟨hc, _⟩ | ⟨a, len, cap, m, D, Pl, hcs, hb, hl, hm, hmm, hx, hi⟩
  · simp only [List.cons.injEq, and_true] at hc
    exact ⟨none, 0, 0, [], hc, rfl, Nat.le_refl _, Kd.C_nil _ _⟩
  · simp only [List.cons.injEq, and_true] at hcs
    have hm2 : cap ≤ 9223372036854775807 := hm
    have hlm : len ≤ m := by rw [hmm]; split <;> omega
    obtain ⟨xs, h1, h2⟩ := C_of_all k51 w a len (by omega) (fun i hil => by
      obtain ⟨ys, n, _, _, _, hf⟩ := hi i (by omega)
      obtain ⟨v0, y0, c0, _, t0⟩ := hf 0 _ rfl
      obtain ⟨v1, y1, c1, _, t1⟩ := hf 1 _ rfl
      obtain ⟨b, e0, _⟩ := DataW.trod_bool Try.underlying4 t0
      obtain ⟨s, e1, _⟩ := DataW.trod_string Try.underlying9 t1
      simp only [List.cons.injEq, and_true] at e0 e1
      subst e0
      subst e1
      refine ⟨⟨b, s⟩, [.bool b, .string s], rfl, k51_mk w ⟨b, s⟩, fun j u hj => ?_⟩
      match j, hj with
      | 0, hj => cases hj; exact c0
      | 1, hj => cases hj; exact c1)
    exact ⟨some a, len, cap, xs, hcs, h1, hl, h2⟩
theorem open22 {v : Value} (h : DataW.trod enc Try.prog w base spare held fuel 22 [v] = some x) : ∃ (A : Option Addr) (n c : Nat) (xs : List S47), v = .slice A n c ∧ xs.length = n ∧ n ≤ c ∧ Kd.C k47 w A n xs := by
  rcases open_slice_fields Try.underlying22 Try.underlying47 (by kernel_rfl) (by kernel_rfl) h with ⟨hc, _⟩ | ⟨a, len, cap, m, D, Pl, hcs, hb, hl, hm, hmm, hx, hi⟩
  · simp only [List.cons.injEq, and_true] at hc
    exact ⟨none, 0, 0, [], hc, rfl, Nat.le_refl _, Kd.C_nil _ _⟩
  · simp only [List.cons.injEq, and_true] at hcs
    have hm2 : cap ≤ 9223372036854775807 := hm
    have hlm : len ≤ m := by rw [hmm]; split <;> omega
    obtain ⟨xs, h1, h2⟩ := C_of_all k47 w a len (by omega) (fun i hil => by
      obtain ⟨ys, n, _, _, _, hf⟩ := hi i (by omega)
      obtain ⟨v0, y0, c0, _, t0⟩ := hf 0 _ rfl
      obtain ⟨v1, y1, c1, _, t1⟩ := hf 1 _ rfl
      obtain ⟨v2, y2, c2, _, t2⟩ := hf 2 _ rfl
      obtain ⟨v3, y3, c3, _, t3⟩ := hf 3 _ rfl
      obtain ⟨v4, y4, c4, _, t4⟩ := hf 4 _ rfl
      obtain ⟨k, e0, _⟩ := DataW.trod_int Try.underlying3 t0
      obtain ⟨nn, e1, _⟩ := DataW.trod_int Try.underlying3 t1
      obtain ⟨s, e2, _⟩ := DataW.trod_string Try.underlying9 t2
      obtain ⟨A3, n3, k3, ps, rfl, hl3, hc3, hC3⟩ := open45 t3
      obtain ⟨A4, n4, k4, ks, rfl, hl4, hc4, hC4⟩ := open28 t4
      simp only [List.cons.injEq, and_true] at e0 e1 e2
      subst e0
      subst e1
      subst e2
      subst hl3
      subst hl4
      refine ⟨⟨k, nn, s, ps, ks⟩, [.int .i64 k, .int .i64 nn, .string s, .slice A3 ps.length k3, .slice A4 ks.length k4], rfl, k47_mk w ⟨k, nn, s, ps, ks⟩ hc3 hC3 hc4 hC4, fun j u hj => ?_⟩
      match j, hj with
      | 0, hj => cases hj; exact c0
      | 1, hj => cases hj; exact c1
      | 2, hj => cases hj; exact c2
      | 3, hj => cases hj; exact c3
      | 4, hj => cases hj; exact c4)
    exact ⟨some a, len, cap, xs, hcs, h1, hl, h2⟩
theorem open23 {v : Value} (h : DataW.trod enc Try.prog w base spare held fuel 23 [v] = some x) : ∃ (A : Option Addr) (n c : Nat) (xs : List S27), v = .slice A n c ∧ xs.length = n ∧ n ≤ c ∧ Kd.C k27 w A n xs := by
  rcases open_slice_fields Try.underlying23 Try.underlying27 (by kernel_rfl) (by kernel_rfl) h with ⟨hc, _⟩ | ⟨a, len, cap, m, D, Pl, hcs, hb, hl, hm, hmm, hx, hi⟩
  · simp only [List.cons.injEq, and_true] at hc
    exact ⟨none, 0, 0, [], hc, rfl, Nat.le_refl _, Kd.C_nil _ _⟩
  · simp only [List.cons.injEq, and_true] at hcs
    have hm2 : cap ≤ 9223372036854775807 := hm
    have hlm : len ≤ m := by rw [hmm]; split <;> omega
    obtain ⟨xs, h1, h2⟩ := C_of_all k27 w a len (by omega) (fun i hil => by
      obtain ⟨ys, n, _, _, _, hf⟩ := hi i (by omega)
      obtain ⟨v0, y0, c0, _, t0⟩ := hf 0 _ rfl
      obtain ⟨v1, y1, c1, _, t1⟩ := hf 1 _ rfl
      obtain ⟨s, e0, _⟩ := DataW.trod_string Try.underlying9 t0
      obtain ⟨A1, n1, k1, ex, rfl, hl1, hc1, hC1⟩ := open22 t1
      simp only [List.cons.injEq, and_true] at e0
      subst e0
      subst hl1
      refine ⟨⟨s, ex⟩, [.string s, .slice A1 ex.length k1], rfl, k27_mk w ⟨s, ex⟩ hc1 hC1, fun j u hj => ?_⟩
      match j, hj with
      | 0, hj => cases hj; exact c0
      | 1, hj => cases hj; exact c1)
    exact ⟨some a, len, cap, xs, hcs, h1, hl, h2⟩
end
end Go.Proofs.Ytbmjdkbakeckoaa
