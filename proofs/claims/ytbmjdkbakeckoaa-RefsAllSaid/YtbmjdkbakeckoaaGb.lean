/- Two names with a dot between them: the two readings come to one. -/
import Derived.Test.YtbmjdkbakeckoaaLe
import Derived.Test.YtbmjdkbakeckoaaPRefsAllx6
import Derived.Test.YtbmjdkbakeckoaaGa
import Derived.Deep.QuietTactic
import Derived.StillTailTactics
import Derived.Sort.OwnSorted
import Derived.Lib.RowBridge
import Derived.Test.YtbmjdkbakeckoaaPRefsAllx7
import Derived.Sort.Walk0
namespace Go.Proofs.Ytbmjdkbakeckoaa
open Go.RowKit Go.Proofs.YtbmjdkbakeckoaaW.PrintWords Go.Proofs.Ytbmjdkbakeckoaa.PRefsAll
set_option linter.unusedVariables false
set_option maxRecDepth 100000
set_option linter.unusedSimpArgs false

theorem bt_list (s : ByteArray) (i : Nat) : bt s (i : Int) = ((s.data.toList[i]?).map (fun b => (b.toNat : Int))).getD 0 := by
  unfold bt
  have e : ((i : Int)).toNat = i := by omega
  by_cases h : i < s.size
  · have h2 : i < s.data.toList.length := by rw [data_length]; exact h
    rw [dif_pos (by rw [e]; exact h), List.getElem?_eq_getElem h2]
    simp [e]
    rfl
  · have h2 : s.data.toList.length ≤ i := by rw [data_length]; omega
    rw [dif_neg (by rw [e]; exact h), List.getElem?_eq_none h2]
    rfl
theorem bt_dot (s : ByteArray) (i : Nat) (hi : i < s.size) : bt s (i : Int) = 46 ↔ s.data.toList[i]? = some 46 := by
  have h2 : i < s.data.toList.length := by rw [data_length]; exact hi
  rw [bt_list, List.getElem?_eq_getElem h2]
  simp only [Option.map_some, Option.getD_some, Option.some.injEq]
  constructor
  · intro h
    have h3 : (s.data.toList[i]).toNat = 46 := by omega
    exact UInt8.toNat_inj.1 h3
  · intro h
    rw [h]; rfl
theorem occ_dot (L : List UInt8) (j : Nat) : Lib.occAt L [46] j = true ↔ L[j]? = some 46 := by
  unfold Lib.occAt
  rcases Nat.lt_or_ge j L.length with h | h
  · rw [List.drop_eq_getElem_cons h, List.getElem?_eq_getElem h]
    simp only [List.isPrefixOf, Bool.and_true, beq_iff_eq, Option.some.injEq]
    exact eq_comm
  · rw [List.drop_eq_nil_of_le h, List.getElem?_eq_none h]
    simp [List.isPrefixOf]
theorem extract_take (s : ByteArray) (i : Nat) (hi : i ≤ s.size) : (⟨(s.data.toList.take i).toArray⟩ : ByteArray) = s.extract 0 i := by
  apply ByteArray.ext
  apply Array.ext'
  simp
theorem extract_drop (s : ByteArray) (i : Nat) : (⟨(s.data.toList.drop i).toArray⟩ : ByteArray) = s.extract i s.size := by
  apply ByteArray.ext
  apply Array.ext'
  rw [ByteArray.data_extract, Array.toList_extract]
  simp only [List.extract]
  exact (List.take_of_length_le (by rw [List.length_drop, data_length]; exact Nat.le_refl _)).symm

theorem runF_spec (s : ByteArray) : ∀ (d i : Nat), i ≤ runF s d i ∧ runF s d i ≤ i + d ∧ (∀ q, i ≤ q → q < runF s d i → wnI (bt s q) = true) ∧ (runF s d i < i + d → wnI (bt s (runF s d i : Nat)) = false)
  | 0, i => ⟨Nat.le_refl _, Nat.le_refl _, fun q h1 h2 => absurd h2 (by simp only [runF]; omega), fun h => absurd h (by simp only [runF]; omega)⟩
  | d + 1, i => by
    simp only [runF]
    by_cases h : wnI (bt s i) = true
    · rw [if_pos h]
      obtain ⟨h1, h2, h3, h4⟩ := runF_spec s d (i + 1)
      refine ⟨by omega, by omega, fun q a b => ?_, fun a => h4 (by omega)⟩
      by_cases hq : q = i
      · rw [hq]; exact h
      · exact h3 q (by omega) b
    · rw [if_neg h]
      exact ⟨Nat.le_refl _, by omega, fun q a b => by omega, fun _ => by simpa using h⟩
theorem endF_le (s : ByteArray) : endF s ≤ s.size := by
  unfold endF
  split
  · omega
  · split
    · have := (runF_spec s s.size 0).2.1; omega
    · omega
/-- Two names with a dot between them, as the document reads them. -/
def dotF (s : ByteArray) : Bool := decide (0 < endF s) && decide (endF s < s.size) && (bt s (endF s : Nat) == 46) && nameP (s.extract 0 (endF s)) && nameP (s.extract (endF s + 1) s.size)
theorem wn_dot : wnI 46 = false := by decide
theorem bt_extract (s : ByteArray) (i q : Nat) (hi : i ≤ s.size) (hq : q < i) : bt (s.extract 0 i) (q : Int) = bt s (q : Int) := by
  rw [bt_list, bt_list, ← extract_take s i hi]
  simp [List.getElem?_take_of_lt hq]
theorem size_extract0 (s : ByteArray) (i : Nat) (hi : i ≤ s.size) : (s.extract 0 i).size = i := by simp; omega
theorem dot_same (s : ByteArray) : dotF s = refP s := by
  rcases Lib.index_spec s.data.toList [46] with ⟨h1, h2⟩ | ⟨i, h1, h2, h3, h4⟩
  · have hc : cutIs s = false := by
      unfold cutIs Lib.cut
      rw [h1]
      rfl
    have hr : refP s = false := by unfold refP; rw [hc]; rfl
    rw [hr]
    unfold dotF
    by_cases he : endF s < s.size
    · have : ¬ bt s (endF s : Nat) = 46 := by
        rw [bt_dot s _ he, ← occ_dot]
        rw [h2 _ (by have := data_length s
                     omega)]
        simp
      simp [this]
    · simp [he]
  · have hi46 : s.data.toList[i]? = some 46 := (occ_dot _ _).1 h3
    have hlt : i < s.size := by
      have := (List.getElem?_eq_some_iff.1 hi46).1
      rwa [data_length] at this
    have hcut : Lib.cut s.data.toList [46] = (s.data.toList.take i, s.data.toList.drop (i + 1), true) := by
      unfold Lib.cut
      rw [h1]
      simp
    have hA : cutA s = s.extract 0 i := by unfold cutA; rw [hcut]; exact extract_take s i (by omega)
    have hB : cutB s = s.extract (i + 1) s.size := by unfold cutB; rw [hcut]; exact extract_drop s (i + 1)
    have hI : cutIs s = true := by unfold cutIs; rw [hcut]
    have hR : refP s = (nameP (s.extract 0 i) && nameP (s.extract (i + 1) s.size)) := by unfold refP; rw [hA, hB, hI]; simp
    rw [hR]
    by_cases he : endF s = i
    · unfold dotF
      rw [he]
      have hb : bt s (i : Int) = 46 := (bt_dot s i hlt).2 hi46
      rw [hb]
      by_cases h0 : 0 < i
      · simp [h0, hlt]
      · have : i = 0 := by omega
        subst this
        simp [nameP]
    · have hl : dotF s = false := by
        unfold dotF
        by_cases hes : endF s < s.size
        · by_cases hb : bt s (endF s : Nat) = 46
          · have h5 := (bt_dot s _ hes).1 hb
            have h6 : i ≤ endF s := by
              rcases Nat.lt_or_ge (endF s) i with h | h
              · have := h4 _ h
                rw [(occ_dot _ _).2 h5] at this
                cases this
              · exact h
            exfalso
            have hbi : bt s (i : Int) = 46 := (bt_dot s i hlt).2 hi46
            have hne : i < endF s := by omega
            unfold endF at hne
            split at hne
            · omega
            · split at hne
              · have := (runF_spec s s.size 0).2.2.1 i (by omega) hne
                rw [hbi, wn_dot] at this
                cases this
              · omega
          · simp [hb]
        · simp [hes]
      rw [hl]
      symm
      rw [Bool.and_eq_false_iff]
      left
      cases hn : nameP (s.extract 0 i) with
      | false => rfl
      | true =>
        exfalso
        unfold nameP at hn
        simp only [Bool.and_eq_true, decide_eq_true_eq, beq_iff_eq, size_extract0 s i (by omega)] at hn
        obtain ⟨⟨⟨n1, n2⟩, n3⟩, n4⟩ := hn
        have n5 : wordI (bt s 0) = true := by
          have := bt_extract s i 0 (by omega) n1
          rw [show ((0 : Nat) : Int) = 0 from rfl] at this
          rw [← this]; exact n3
        obtain ⟨r1, r2, r3, r4⟩ := runF_spec s s.size 0
        obtain ⟨e1, e2, e3, e4⟩ := runF_spec (s.extract 0 i) i 0
        rw [n4] at e3
        apply he
        unfold endF
        rw [if_neg (by omega), if_pos n5]
        rcases Nat.lt_trichotomy (runF s s.size 0) i with h | h | h
        · have h5 := r4 (by omega)
          have h6 := e3 (runF s s.size 0) (by omega) h
          rw [bt_extract s i _ (by omega) h, h5] at h6
          cases h6
        · exact h
        · have h5 := r3 i (by omega) h
          rw [(bt_dot s i hlt).2 hi46, wn_dot] at h5
          cases h5
end Go.Proofs.Ytbmjdkbakeckoaa
namespace Go.Proofs.Ytbmjdkbakeckoaa
open Go.RowKit Go.Proofs.YtbmjdkbakeckoaaW.PrintWords Go.Proofs.Ytbmjdkbakeckoaa.PRefsAll
set_option linter.unusedVariables false
set_option linter.unusedSimpArgs false
set_option maxRecDepth 100000

theorem dotted_eq (s : ByteArray) (hs : s.size ≤ 300) (k : Nat) (hk : 340 ≤ k) : doorkeeperref1_Dotted.f k s = some (refP s) := by
  rw [← dot_same]
  unfold doorkeeperref1_Dotted.f dotF
  have he := endF_le s
  rw [end_eq s (by omega) k (by omega), Option.bind_some]
  by_cases h0 : 0 < endF s
  · rw [if_pos (by omega)]
    by_cases h1 : endF s < s.size
    · rw [if_pos (by omega), if_pos (by omega)]
      by_cases hb : bt s (endF s : Nat) = 46
      · rw [if_pos hb, if_pos (by omega)]
        have hw : wrap64 ((endF s : Nat) + 1) = ((endF s + 1 : Nat) : Int) := by unfold wrap64; omega
        rw [hw]
        have e1 : (((endF s : Nat) : Int)).toNat = endF s := by omega
        have e2 : (((endF s + 1 : Nat) : Int)).toNat = endF s + 1 := by omega
        rw [e1, e2, name_ref _ k (by omega), Option.bind_some]
        cases hn : nameP (s.extract 0 (endF s)) with
        | false => simp [hn]
        | true =>
          rw [if_pos rfl, if_pos (by omega), if_pos (by omega), name_ref _ k (by omega), Option.bind_some]
          simp [hn, h0, h1, hb]
      · rw [if_neg hb]
        simp [hb]
    · rw [if_neg (by omega)]
      simp [h1]
  · rw [if_neg (by omega)]
    simp [h0]

theorem may_bytes (l : List S51) (x3 : Nat) (hx : x3 < l.length) (hl : l.length ≤ 1000) (hs : (rd_T51 l x3).f1.size ≤ 300) (K : Nat) (R : Bool) (hK : ∀ k, K ≤ k → doorkeeperref1_mayParts.l0 k l ((x3 : Int) + 1) = some R) :
    ∀ (d i k : Nat), i + d = (rd_T51 l x3).f1.size → K + d + 1 ≤ k → doorkeeperref1_mayParts.l1 k l x3 i = some (okF (rd_T51 l x3).f1 d i && R)
  | 0, i, k, hi, hk => by
    obtain ⟨k, rfl⟩ : ∃ m, k = m + 1 := ⟨k - 1, by omega⟩
    simp only [doorkeeperref1_mayParts.l1]
    have hw : wrap64 ((x3 : Int) + 1) = (x3 : Int) + 1 := by unfold wrap64; omega
    rw [if_pos (by omega), if_pos (by omega), if_neg (by omega), hw, hK k (by omega)]
    simp [okF]
  | d + 1, i, k, hi, hk => by
    obtain ⟨k, rfl⟩ : ∃ m, k = m + 1 := ⟨k - 1, by omega⟩
    have ih := may_bytes l x3 hx hl hs K R hK d (i + 1) k (by omega) (by omega)
    simp only [doorkeeperref1_mayParts.l1]
    have hw : wrap64 ((i : Int) + 1) = ((i + 1 : Nat) : Int) := by unfold wrap64; omega
    rw [if_pos (by omega), if_pos (by omega), if_pos (by omega), if_pos (by omega), hw, ih]
    simp only [okF]
    by_cases h1 : bt (rd_T51 l x3).f1 i < 32
    · rw [if_pos h1]
      have h3 : ¬ 32 ≤ bt (rd_T51 l x3).f1 i := by omega
      by_cases h2 : bt (rd_T51 l x3).f1 i = 10
      · rw [if_pos h2]; simp [h2]
      · rw [if_neg h2]; simp [h2, h3]
    · rw [if_neg h1]
      have h3 : 32 ≤ bt (rd_T51 l x3).f1 i := by omega
      simp [h3]

theorem may_loop (l : List S51) (hl : l.length ≤ 1000) (hs : ∀ p ∈ l, p.f1.size ≤ 300) :
    ∀ (d i k : Nat), i + d = l.length → d * 310 + 350 ≤ k → doorkeeperref1_mayParts.l0 k l i = some (partsG (prevF l i) (l.drop i))
  | 0, i, k, hi, hk => by
    obtain ⟨k, rfl⟩ : ∃ m, k = m + 1 := ⟨k - 1, by omega⟩
    obtain rfl : i = l.length := by omega
    simp only [doorkeeperref1_mayParts.l0]
    rw [if_neg (by omega), List.drop_length]
    rfl
  | d + 1, i, k, hi, hk => by
    obtain ⟨k, rfl⟩ : ∃ m, k = m + 1 := ⟨k - 1, by omega⟩
    have hlt : i < l.length := by omega
    have ih := fun k' (hk' : d * 310 + 350 ≤ k') => may_loop l hl hs d (i + 1) k' (by omega) hk'
    have hmem := hs _ (rd_mem l i hlt)
    have hw : wrap64 ((i : Int) + 1) = ((i + 1 : Nat) : Int) := by unfold wrap64; omega
    rw [rd_drop l i hlt]
    simp only [doorkeeperref1_mayParts.l0]
    rw [if_pos (by omega), if_pos (by omega)]
    simp only [partsG]
    rw [prevF_succ] at ih
    by_cases hr : (rd_T51 l i).f0 = true
    · rw [if_pos hr, if_pos hr, dotted_eq _ hmem k (by omega), Option.bind_some, hw, ih k (by omega), hr]
      cases refP (rd_T51 l i).f1 <;> simp
    · have hr' : (rd_T51 l i).f0 = false := by simpa using hr
      rw [if_neg hr, if_neg hr]
      by_cases h0 : (rd_T51 l i).f1.size = 0
      · have h0' : (rd_T51 l i).f1.toList = [] := (toList_nil _).2 h0
        obtain ⟨k, rfl⟩ : ∃ m, k = m + 1 := ⟨k - 1, by omega⟩
        rw [if_pos h0']
        simp [doorkeeperref1_mayParts.j1, h0]
      · have h0' : ¬ (rd_T51 l i).f1.toList = [] := fun e => h0 ((toList_nil _).1 e)
        rw [if_neg h0']
        obtain ⟨k, rfl⟩ : ∃ m, k = m + 1 := ⟨k - 1, by omega⟩
        rw [hr'] at ih
        have hby := may_bytes l i hlt hl hmem (d * 310 + 350) (partsG false (l.drop (i + 1))) (fun k' hk' => by have := ih k' hk'; rw [show ((i + 1 : Nat) : Int) = (i : Int) + 1 by omega] at this; exact this) (rd_T51 l i).f1.size 0 k (by omega) (by omega)
        rw [show ((0 : Nat) : Int) = 0 from rfl] at hby
        by_cases hi0 : 0 < i
        · have hw1 : wrap64 ((i : Int) - 1) = (i : Int) - 1 := by unfold wrap64; omega
          rw [if_pos (by omega), hw1, if_pos (by omega), if_pos (by omega)]
          have hp : prevF l i = (rd_T51 l ((i : Int) - 1)).f0 := by unfold prevF; rw [if_neg (by omega)]
          rw [hp]
          simp only [doorkeeperref1_mayParts.j1]
          cases hq : (rd_T51 l ((i : Int) - 1)).f0 with
          | false => simp
          | true =>
            simp only [Bool.not_true, Bool.false_eq_true, if_false]
            rw [hby]
            simp [h0, printP]
        · have : i = 0 := by omega
          subst this
          rw [if_neg (by omega)]
          simp only [doorkeeperref1_mayParts.j1, Bool.false_eq_true, if_false]
          have hp : prevF l 0 = true := rfl
          have hd : decide ((rd_T51 l ((0 : Nat) : Int)).f1.size ≠ 0) = true := decide_eq_true h0
          rw [hp, hby, hd]
          rfl
theorem may_eq (l : List S51) (hl : l.length ≤ 100) (hs : ∀ p ∈ l, p.f1.size ≤ 300) (k : Nat) (hk : 40000 ≤ k) : doorkeeperref1_mayParts.f k l = some (partsP l) := by
  unfold doorkeeperref1_mayParts.f partsP
  have := may_loop l (by omega) hs l.length 0 k (by omega) (by omega)
  rw [show ((0 : Nat) : Int) = 0 from rfl] at this
  exact this
end Go.Proofs.Ytbmjdkbakeckoaa
namespace Go.Proofs.Ytbmjdkbakeckoaa
open Go.RowKit Go.Proofs.YtbmjdkbakeckoaaW.PrintWords Go.Proofs.Ytbmjdkbakeckoaa.PRefsAll
set_option linter.unusedVariables false
set_option linter.unusedSimpArgs false
set_option maxRecDepth 100000

theorem cutA_end (s : ByteArray) (h : refP s = true) : cutA s = s.extract 0 (endF s) := by
  rw [← dot_same] at h
  unfold dotF at h
  simp only [Bool.and_eq_true, decide_eq_true_eq, beq_iff_eq] at h
  obtain ⟨⟨⟨⟨h0, h1⟩, hb⟩, _⟩, _⟩ := h
  have h5 := (bt_dot s _ h1).1 hb
  rcases Lib.index_spec s.data.toList [46] with ⟨_, h2⟩ | ⟨i, hi, _, h3, h4⟩
  · have := h2 (endF s) (by have := data_length s; omega)
    rw [(occ_dot _ _).2 h5] at this
    cases this
  · have hi46 := (occ_dot _ _).1 h3
    have hlt : i < s.size := by
      have := (List.getElem?_eq_some_iff.1 hi46).1
      rwa [data_length] at this
    have e : i = endF s := by
      rcases Nat.lt_trichotomy (endF s) i with h | h | h
      · have := h4 _ h
        rw [(occ_dot _ _).2 h5] at this
        cases this
      · exact h.symm
      · exfalso
        unfold endF at h
        split at h
        · omega
        · split at h
          · have := (runF_spec s s.size 0).2.2.1 i (by omega) h
            rw [(bt_dot s i hlt).2 hi46, wn_dot] at this
            cases this
          · omega
    unfold cutA Lib.cut
    rw [hi, if_pos (by omega)]
    simp only [Int.toNat_natCast]
    rw [extract_take s i (by omega), e]

theorem leaf_eq (kind num : Int) (text : ByteArray) (parts : List S51) (kids : List Int) (hl : parts.length ≤ 100) (hs : ∀ p ∈ parts, p.f1.size ≤ 300) (ht : text.size ≤ 300) :
    doorkeeperref1_leaf.f 40001 kind num text parts kids = some (plainP ⟨kind, num, text, parts, kids⟩) := by
  have hm := may_eq parts hl hs 40000 (Nat.le_refl _)
  have hd := dotted_eq text ht 40000 (by omega)
  have hn := name_ref text 40000 (by omega)
  have he := end_eq text (by omega) 40000 (by omega)
  have hle := endF_le text
  have hpz : (decide ((parts.length : Int) > 0)) = !((parts.length : Int) == 0) := by
    by_cases h : parts.length = 0
    · simp [h]
    · have h1 : (parts.length : Int) > 0 := by omega
      have h2 : ¬ (parts.length : Int) = 0 := by omega
      rw [decide_eq_true h1, beq_eq_false_iff_ne.2 h2]
      rfl
  have hj : ∀ t, doorkeeperref1_leaf.j0 40001 t kind num text parts kids = if t = true then some false else some (if kind = 1 then decide (0 ≤ num) else if kind = 3 then num == 0 || num == 1 else if kind = 2 then partsP parts else if kind = 4 then plainText ⟨kind, num, text, parts, kids⟩ else if kind = 5 then plainText ⟨kind, num, text, parts, kids⟩ else true) := by
    intro t
    simp only [doorkeeperref1_leaf.j0]
    cases t with
    | true => rfl
    | false =>
      simp only [Bool.false_eq_true, if_false]
      by_cases k1 : kind = 1
      · simp only [k1, if_true]
      rw [if_neg k1, if_neg k1]
      by_cases k3 : kind = 3
      · rw [if_pos k3, if_pos k3]
        by_cases n0 : num = 0
        · simp [n0]
        · rw [if_neg n0]; simp [n0]
      rw [if_neg k3, if_neg k3]
      by_cases k2 : kind = 2
      · rw [if_pos k2, if_pos k2, hm]; rfl
      rw [if_neg k2, if_neg k2]
      by_cases k4 : kind = 4
      · rw [if_pos k4, if_pos k4, he, Option.bind_some, if_pos (by omega), if_pos (by omega), hd, Option.bind_some]
        unfold plainText
        simp only
        rw [if_pos k4]
        cases hr : refP text with
        | false => rfl
        | true =>
          rw [if_pos rfl, cutA_end text hr]
          have e1 : (((endF text : Nat) : Int)).toNat = endF text := by omega
          rw [e1]
          unfold truthP
          generalize (text.extract 0 (endF text)).toList = L
          by_cases a : L = [116, 114, 117, 101]
          · rw [if_pos a]; simp [a]
          · rw [if_neg a, decide_eq_false a]
            by_cases b : L = [102, 97, 108, 115, 101]
            · simp [b]
            · simp [b]
      rw [if_neg k4, if_neg k4]
      by_cases k5 : kind = 5
      · rw [if_pos k5, if_pos k5, hn, Option.bind_some]
        unfold plainText
        simp only
        rw [if_neg k4, if_pos k5]
        cases hr : nameP text with
        | false => rfl
        | true =>
          rw [if_pos rfl]
          unfold truthP
          generalize text.toList = L
          by_cases a : L = [116, 114, 117, 101]
          · rw [if_pos a]; simp [a]
          · rw [if_neg a, decide_eq_false a]
            by_cases b : L = [102, 97, 108, 115, 101]
            · simp [b]
            · simp [b]
      · rw [if_neg k5, if_neg k5]
  unfold doorkeeperref1_leaf.f
  simp only [hj, hpz]
  unfold plainP plainNum plainList
  simp only
  by_cases k1 : kind = 1
  · subst k1
    have hT : plainText ⟨1, num, text, parts, kids⟩ = (text.toList == []) := rfl
    rw [hT]
    by_cases a : text.toList = []
    · simp [a]
      by_cases b : parts = [] <;> simp [b]
    · simp [a]
  by_cases k3 : kind = 3
  · subst k3
    have hT : plainText ⟨3, num, text, parts, kids⟩ = (text.toList == []) := rfl
    rw [hT]
    by_cases a : text.toList = []
    · simp [a]
      by_cases b : parts = [] <;> simp [b]
    · simp [a]
  by_cases k2 : kind = 2
  · subst k2
    have hT : plainText ⟨2, num, text, parts, kids⟩ = (text.toList == []) := rfl
    rw [hT]
    by_cases a : text.toList = []
    · by_cases b : num = 0 <;> simp [a, b]
    · by_cases b : num = 0 <;> simp [a, b]
  by_cases k4 : kind = 4
  · subst k4
    generalize plainText ⟨4, num, text, parts, kids⟩ = T
    by_cases b : num = 0
    · by_cases c : parts = [] <;> simp [b, c]
    · by_cases c : parts = [] <;> simp [b, c]
  by_cases k5 : kind = 5
  · subst k5
    generalize plainText ⟨5, num, text, parts, kids⟩ = T
    by_cases b : num = 0
    · by_cases c : parts = [] <;> simp [b, c]
    · by_cases c : parts = [] <;> simp [b, c]
  have hT : plainText ⟨kind, num, text, parts, kids⟩ = (text.toList == []) := by unfold plainText; simp [k4, k5]
  rw [hT]
  by_cases a : text.toList = []
  · by_cases b : num = 0
    · by_cases c : parts = [] <;> simp [a, b, c, k1, k2, k3, k4, k5]
    · by_cases c : parts = [] <;> simp [a, b, c, k1, k2, k3, k4, k5]
  · by_cases b : num = 0 <;> simp [a, b, k1, k2, k3, k4, k5]

theorem leaf_any (x : S47) (A3 A4 : Option Addr) (c3 c4 : Nat) (w : World) (h3 : x.f3.length ≤ c3) (h4 : x.f4.length ≤ c4) (g3 : Kd.C k51 w A3 x.f3.length x.f3) (g4 : Kd.C (Kd.int .i64) w A4 x.f4.length x.f4)
    (hl : x.f3.length ≤ 100) (hs : ∀ p ∈ x.f3, p.f1.size ≤ 300) (ht : x.f2.size ≤ 300) :
    Calls Try.prog 39 #[.agg #[.int .i64 x.f0, .int .i64 x.f1, .string x.f2, .slice A3 x.f3.length c3, .slice A4 x.f4.length c4]] w fun e w' => e = .returned (.bool (plainP x)) ∧ Below w.heap.size w w' :=
  doorkeeperref1_leaf.calls 40001 x.f0 x.f1 x.f2 A3 c3 x.f3 A4 c4 x.f4 (plainP x) w g3 h3 g4 h4 (leaf_eq x.f0 x.f1 x.f2 x.f3 x.f4 hl hs ht)

set_option maxHeartbeats 1600000 in
theorem arms_any (x : Int) (w : World) : Calls Try.prog 38 #[.int .i64 x] w fun e w' => e = .returned (.int .i64 (kidsF x)) ∧ w' = w := by
  go_enter Try.func38, Try.ntmps38
  go_wp2_with fail
  all_goals
    go_ret
    refine ⟨?_, rfl⟩
    unfold kidsF
    first | (simp_all; done) | (simp_all; omega) | (repeat' split) <;> first | rfl | omega
end Go.Proofs.Ytbmjdkbakeckoaa
namespace Go.Proofs.Ytbmjdkbakeckoaa
open Go Go.RowKit Go.Proofs.YtbmjdkbakeckoaaW.PrintWords Go.Proofs.Ytbmjdkbakeckoaa.PRefsAll Go.Proofs.Ytbmjdkbakeckoaa.Tree
set_option linter.unusedVariables false
set_option linter.unusedSimpArgs false

/-- Within what a statement goes through. -/
def Fits (l : List S47) : Prop := l.length ≤ 100 ∧ ∀ x ∈ l, x.f2.size ≤ 300 ∧ x.f3.length ≤ 100 ∧ (∀ p ∈ x.f3, p.f1.size ≤ 300) ∧ x.f4.length ≤ 100
/-- Is it an expression? -/
def treeP (l : List S47) : Bool := runS (okN kidsF plainP) (fun x => x.f4) l 0 []
theorem tree1_is (l : List S47) (A : Option Addr) (c : Nat) (w : World) (hf : Fits l) (hl : Kd.C k47 w A l.length l) :
    Calls Try.prog 27 #[.slice A l.length c] w fun r w' => r = .returned (.bool (treeP l)) ∧ Below w.heap.size w w' :=
  tree1_any kidsF plainP w A c l hl (by have := hf.1; omega) (fun x hx => by have := (hf.2 x hx).2.2.2; omega) (fun k W => arms_any k W)
    (fun x hx A3 c3 A4 c4 W h3 h4 g3 g4 => leaf_any x A3 A4 c3 c4 W h3 h4 g3 g4 (hf.2 x hx).2.1 (hf.2 x hx).2.2.1 (hf.2 x hx).1)
theorem tree_is (l : List S47) (A : Option Addr) (c : Nat) (m : Int) (w : World) (hm : w.cell? ⟨0, 0, none⟩ = some (.int .i64 m)) (hf : Fits l) (hl : Kd.C k47 w A l.length l) :
    Calls Try.prog 19 #[.slice A l.length c] w fun r w' => r = .returned (.bool (treeP l)) ∧ Below w.heap.size w w' := by
  refine (tree_any (beg (okN kidsF plainP) (fun x => x.f4) l ((l.length : Int) - 1)) w A c l.length (by have := hf.1; omega) fun h0 => ?_).mono ?_
  · have := begin_any kidsF plainP w A c l hl (by have := hf.1; omega) (fun x hx => by have := (hf.2 x hx).2.2.2; omega) (fun k W => kids_any k W)
      (fun x hx A3 c3 A4 c4 W hW h3 => plain_any m x.f0 x.f1 x.f2 x.f3 x.f4 A3 A4 c3 c4 W (cell_below hW hm) h3 (hf.2 x hx).2.1 (hf.2 x hx).2.2.1 (hf.2 x hx).1)
      (l.length - 1) (by omega) w (Below.refl _ _)
    rw [show ((l.length - 1 : Nat) : Int) = (l.length : Int) - 1 by omega] at this
    exact this
  · rintro e w' ⟨rfl, hb⟩
    refine ⟨?_, hb⟩
    by_cases h0 : l.length = 0
    · obtain rfl := List.eq_nil_of_length_eq_zero h0
      rfl
    · unfold treeP
      rw [tree_same _ _ _ h0]
      simp [h0]
end Go.Proofs.Ytbmjdkbakeckoaa
namespace Go.Proofs.Ytbmjdkbakeckoaa
open Go Go.RowKit Go.Proofs.YtbmjdkbakeckoaaW.PrintWords Go.Proofs.YtbmjdkbakeckoaaW.PrintLast Go.Proofs.YtbmjdkbakeckoaaW.PrintMore Go.Proofs.Ytbmjdkbakeckoaa.PRefsAll
set_option maxRecDepth 100000
set_option linter.unusedSimpArgs false
set_option linter.unusedVariables false
set_option maxHeartbeats 4000000

/-- A list of texts behind a pointer. -/
def OwnT (w : World) (base p : Nat) (xs : List ByteArray) : Prop :=
  ∃ v, w.heap[p]? = some (.cells #[v] 67 (0, 0)) ∧ base ≤ p ∧ Kd.string.R 9 w base (fun k => k ≠ p) v xs
theorem OwnT.below {w w' : World} {base p : Nat} {xs : List ByteArray} (h : OwnT w base p xs) (hb : Below w.heap.size w w') : OwnT w' base p xs := by
  obtain ⟨v, h1, h2, h3⟩ := h
  exact ⟨v, bk_below h1 hb, h2, Kd.R_below h3 hb⟩

/-- Blocks of other types lie as they lay. -/
def Typ (w w' : World) : Prop := ∀ (q : Nat) (cs : Array Value) (t : TypeId), w.heap[q]? = some (.cells cs t (0, 0)) → t ≠ 67 → t ≠ 9 → w'.heap[q]? = some (.cells cs t (0, 0))
theorem bk_set1 {w : World} {g : Nat} {t : TypeId} {v0 : Value} (h : w.heap[g]? = some (.cells #[v0] t (0, 0))) (u : Value) : (w.setCell ⟨g, 0, none⟩ u).heap[g]? = some (.cells #[u] t (0, 0)) := by
  simp [World.setCell, Array.getElem?_modify, h]

theorem add_any (s : ByteArray) (base p : Nat) (xs : List ByteArray) (w0 w : World) (hb0 : Below base w0 w) (hbase : base ≤ w.heap.size) (h : OwnT w base p xs) (hx : xs.length ≤ 100000) :
    Calls Try.prog 40 #[.pointer (some ⟨p, 0, none⟩), .string s] w fun e w' => e = .returned (.tuple #[]) ∧ OwnT w' base p (xs ++ [s]) ∧ Below base w0 w' ∧ base ≤ w'.heap.size ∧ Below base w w' ∧ Typ w w' := by
  obtain ⟨v, k1, k2, hR⟩ := h
  obtain ⟨A, c, rfl⟩ := Kd.R_slice hR
  have d0 : w.cell? ⟨p, 0, none⟩ = some (.slice A xs.length c) := (bk_cell k1 0).trans rfl
  have f0 : w.frozen? ⟨p, 0, none⟩ = false := bk_frozen k1 0
  have hlt := bk_lt k1
  have K1 := Lib.hid k1
  have HR := Lib.hid hR
  have HB0 := Lib.hid hb0
  clear k1 hR hb0
  go_enter Try.func40, Try.ntmps40
  go_wp2_with ((with_reducible refine gate_builtin (b := .append) (xs := #[.tmp 8, .tmp 10]) rfl ?_); at_builtin; refine Kd.R_append Kd.string (w0 := w) base rfl (.tmp 8) (.tmp 10) 35 9 (.string ⟨#[]⟩) 16 rfl Try.underlying35 info9 rfl (by decide) (by omega) (.slice A xs.length c) xs s [.string s] (fun k => k ≠ p) (fun _ => False) rfl rfl ?aP (fun _ hk => hk.elim) ?aF ?aO ?aB ?aS ?aL ?_; (case aP => exact rfl); (case aF => intro k hk; omega); (case aO => exact HR.out); (case aB => exact Below.refl _ _); (case aS => exact hbase); (case aL => omega); intro v1 w1 ho hb hg hat; obtain ⟨A1, c1, rfl⟩ := Kd.R_slice ho; have k3 := (hg.block p hlt (fun e => HR.out.1 p e.symm rfl)).trans K1.out; have d1 : w1.cell? ⟨p, 0, none⟩ = some (.slice A xs.length c) := (bk_cell k3 0).trans rfl; have f1 : w1.frozen? ⟨p, 0, none⟩ = false := bk_frozen k3 0; have HT := Lib.hid (show ∀ q cs t, w.heap[q]? = some (.cells cs t (0, 0)) → t ≠ 67 → t ≠ 9 → w1.heap[q]? = some (.cells cs t (0, 0)) from fun q cs t hq h1 h2 => (hg.block q (bk_lt hq) (Kd.R_ne HR.out hq (fun e => h2 e.symm))).trans hq); have K3 := Lib.hid k3; rw [List.length_append, List.length_singleton] at ho; have HO := Lib.hid ho; clear k3 ho hat hg)
  have hz := hb.size
  go_end0
  refine ⟨rfl, ⟨_, bk_set1 K3.out _, k2, Kd.R_far (p := ⟨p, 0, none⟩) HO.out (fun k hk => hk) _⟩, (HB0.out.trans hb).setCell (p := ⟨p, 0, none⟩) k2 _, by simp; omega, hb.setCell (p := ⟨p, 0, none⟩) k2 _, fun q cs t hq h1 h2 => ?_⟩
  have hqp : q ≠ p := by
    rintro rfl
    rw [K1.out] at hq
    cases hq
    exact h1 rfl
  exact (Below.heap_setCell w1 ⟨p, 0, none⟩ _ q hqp).trans (HT.out q cs t hq h1 h2)

/-- What a node refers to. -/
def refsOf (x : S47) : List ByteArray := (if x.f0 = 4 then [x.f2] else []) ++ (x.f3.filter (fun p => p.f0)).map (fun p => p.f1)

def fromP (l : List S51) : List ByteArray := (l.filter (fun p => p.f0)).map (fun p => p.f1)
theorem fromP_succ (l : List S51) (i : Nat) (h : i < l.length) : fromP (l.take (i + 1)) = fromP (l.take i) ++ (if (rd_T51 l (i : Int)).f0 then [(rd_T51 l (i : Int)).f1] else []) := by
  have e : l[i]? = some (rd_T51 l (i : Int)) := by
    have := rd_drop l i h
    have h2 := congrArg List.head? this
    rw [List.head?_drop] at h2
    exact h2
  rw [List.take_add_one, e]
  unfold fromP
  simp only [Option.toList_some, List.filter_append, List.map_append]
  congr 1
  cases h2 : (rd_T51 l (i : Int)).f0 <;> simp [h2]
theorem fromP_len (l : List S51) : (fromP l).length ≤ l.length := by
  unfold fromP
  rw [List.length_map]
  exact List.length_filter_le _ _

theorem node_any (x : S47) (A3 A4 : Option Addr) (c3 n4 c4 p : Nat) (xs : List ByteArray) (w0 w : World) (hb0 : Below w0.heap.size w0 w) (h : OwnT w w0.heap.size p xs) (hx : xs.length ≤ 50000)
    (g3 : Kd.C k51 w0 A3 x.f3.length x.f3) (h3 : x.f3.length ≤ 100) :
    Calls Try.prog 30 #[.pointer (some ⟨p, 0, none⟩), .agg #[.int .i64 x.f0, .int .i64 x.f1, .string x.f2, .slice A3 x.f3.length c3, .slice A4 n4 c4]] w fun e w' => e = .returned (.tuple #[]) ∧ OwnT w' w0.heap.size p (xs ++ refsOf x) ∧ Below w0.heap.size w0 w' := by
  obtain ⟨k, n, t, ps, ks⟩ := x
  dsimp only at g3 h3 ⊢
  obtain ⟨base, hbase⟩ : ∃ b, w0.heap.size = b := ⟨_, rfl⟩
  rw [hbase] at hb0 h ⊢
  obtain ⟨W, hW⟩ : ∃ W, W = w.alloc (Obj.cells #[Value.int IntKind.i64 k, Value.int IntKind.i64 n, Value.string t, Value.slice A3 ps.length c3, Value.slice A4 n4 c4] 47) := ⟨_, rfl⟩
  have hsz : base ≤ w.heap.size := by rw [← hbase]; exact hb0.size
  have hbW : Below w.heap.size w W := by rw [hW]; exact (Below.refl _ _).alloc (Nat.le_refl _) _
  have k2 : W.heap[w.heap.size]? = some (.cells #[Value.int IntKind.i64 k, Value.int IntKind.i64 n, Value.string t, Value.slice A3 ps.length c3, Value.slice A4 n4 c4] 47) := by rw [hW]; exact bk_new _ _
  have hO := h.below hbW
  have hB := hb0.trans (hbW.mono hsz)
  have hszW := Nat.le_trans hsz hbW.size
  have HRef := Lib.hid (show refsOf ⟨k, n, t, ps, ks⟩ = (if k = 4 then [t] else []) ++ fromP ps from rfl)
  have G3 := Lib.hid g3
  have HW := Lib.hid hW
  have r0 : W.cell? ⟨w.heap.size, 0, none⟩ = some (.int .i64 k) := (bk_cell k2 0).trans rfl
  have r2 : W.cell? ⟨w.heap.size, 2, none⟩ = some (.string t) := (bk_cell k2 2).trans rfl
  have r3 : W.cell? ⟨w.heap.size, 3, none⟩ = some (.slice A3 ps.length c3) := (bk_cell k2 3).trans rfl
  have K2 := Lib.hid k2
  have HO := Lib.hid hO
  have HB := Lib.hid hB
  clear hW h hb0 k2 hO hB g3 hbW
  go_enter Try.func30, Try.ntmps30
  obtain ⟨RR, hRR⟩ : ∃ RR, xs ++ refsOf ⟨k, n, t, ps, ks⟩ = RR := ⟨_, rfl⟩
  rw [hRR]
  have HRR := Lib.hid hRR
  clear hRR
  have hfl := fromP_len ps
  have HFL := Lib.hid hfl
  clear hfl
  rcases (by by_cases h : k = 4; exact .inl h; exact .inr h : k = 4 ∨ k ≠ 4) with hk | hk
  rotate_left
  · have hrr : xs ++ fromP ps = RR := by
      have := HRR.out
      rw [HRef.out, if_neg hk] at this
      exact this
    have HRR2 := Lib.hid hrr
    clear hrr HRR HRef
    obtain ⟨ys, hys⟩ : ∃ ys, xs = ys := ⟨_, rfl⟩
    rw [hys] at HO HRR2
    have hylen : ys.length ≤ 50001 := by rw [← hys]; omega
    clear hys hx
    obtain ⟨Wx, hWx⟩ : ∃ Wx, W = Wx := ⟨_, rfl⟩
    rw [hWx] at HO HB hszW r3 r0 r2
    rw [hWx] at HW
    have hk4 : (k == 4) = false := by simp [hk]
    clear hk
    go_wp2_with fail
    rw [← HW.out]
    go_wp2_with fail
    go_loopw [18] (fun iv wr => ∃ i : Nat, i ≤ ps.length ∧ iv = .int .i64 i ∧ OwnT wr base p (ys ++ fromP (ps.take i)) ∧ Below base w0 wr ∧ base ≤ wr.heap.size) (fun iv _ => ps.length - (intOf iv).toNat)
    case atStart => exact ⟨0, by omega, rfl, by simpa [fromP] using HO.out, HB.out, hszW⟩
    case round =>
      obtain ⟨i, hi, rfl, hO, hb, hs⟩ := hrel
      have HOi := Lib.hid hO
      have HBi := Lib.hid hb
      clear hO hb HO HB hszW
      by_cases hlt : i < ps.length
      · obtain ⟨β, o, rfl, hβ, q0, q1⟩ := part_cells G3.out i hlt
        rw [hbase] at hβ
        have q0 := (HBi.out.cell (p := ⟨β, o + i * 2, none⟩) hβ).trans q0
        have q1 := (HBi.out.cell (p := ⟨β, o + i * 2 + 1, none⟩) hβ).trans q1
        have HN := Lib.hid (fromP_succ ps i hlt)
        obtain ⟨pt, hpt⟩ : ∃ pt, rd_T51 ps (i : Int) = pt := ⟨_, rfl⟩
        rw [hpt] at q0 q1 HN
        clear hpt
        obtain ⟨pb, px⟩ := pt
        dsimp only at q0 q1 HN
        obtain ⟨Wi, hWi⟩ : ∃ Wi, Wi = wr.alloc (Obj.cells #[Value.bool pb, Value.string px] 51) := ⟨_, rfl⟩
        have hbi : Below wr.heap.size wr Wi := by rw [hWi]; exact (Below.refl _ _).alloc (Nat.le_refl _) _
        have k5 : Wi.heap[wr.heap.size]? = some (.cells #[Value.bool pb, Value.string px] 51) := by rw [hWi]; exact bk_new _ _
        have t0 : Wi.cell? ⟨wr.heap.size, 0, none⟩ = some (.bool pb) := (bk_cell k5 0).trans rfl
        have t1 : Wi.cell? ⟨wr.heap.size, 1, none⟩ = some (.string px) := (bk_cell k5 1).trans rfl
        have hOi := HOi.out.below hbi
        have hBi := HBi.out.trans (hbi.mono hs)
        have hsi := Nat.le_trans hs hbi.size
        have HOj := Lib.hid hOi
        have HBj := Lib.hid hBi
        have HWi := Lib.hid hWi
        have hlen2 : (fromP (ps.take i)).length ≤ 100 := by
          have := fromP_len (ps.take i)
          rw [List.length_take] at this
          omega
        clear hWi k5 hOi hBi hbi
        cases pb
        · go_wp2_with fail
          rw [← HWi.out]
          go_wp2_with fail
          go_roundw
          case rel => exact ⟨i + 1, by omega, by go_num, by rw [HN.out]; simpa using HOj.out, HBj.out, hsi⟩
          case measure => simp [intOf]; omega
        · go_wp2_with fail
          rw [← HWi.out]
          go_wp2_with fail
          go_still_tail 5, (by kernel_rfl)
          change wpList _ _ _ _ _ Wi.drew
          have hD : Below Wi.heap.size Wi Wi.drew := (Below.refl _ _).drew
          obtain ⟨W1, hW1⟩ : ∃ W1, Wi.drew = W1 := ⟨_, rfl⟩
          rw [hW1] at hD ⊢
          clear hW1
          have hO1 := HOj.out.below hD
          have hB1 := HBj.out.trans (hD.mono hsi)
          have hs1 := Nat.le_trans hsi hD.size
          go_wp2_with fail
          refine (add_any px base p (ys ++ fromP (ps.take i)) w0 W1 hB1 hs1 hO1 (by rw [List.length_append]; omega)).mono ?_
          rintro e Wy ⟨rfl, hOy, hBy, hsy, hBb, hTx⟩
          have HOy := Lib.hid hOy
          have HBy := Lib.hid hBy
          clear hOy hBy hBb hTx hO1 hB1 hD
          go_wp2_with fail
          go_roundw
          case rel => exact ⟨i + 1, by omega, by go_num, by rw [HN.out]; simpa using HOy.out, HBy.out, hsy⟩
          case measure => simp [intOf]; omega
      · obtain rfl : i = ps.length := by omega
        go_wp2_with fail
        go_end0
        refine ⟨rfl, ?_, HBi.out⟩
        have := HOi.out
        rw [List.take_length, HRR2.out] at this
        exact this
  · subst hk
    have hrr : xs ++ [t] ++ fromP ps = RR := by
      have := HRR.out
      rw [HRef.out, if_pos rfl, ← List.append_assoc] at this
      exact this
    have HRR2 := Lib.hid hrr
    clear hrr HRR HRef
    go_wp2_with fail
    rw [← HW.out]
    go_wp2_with fail
    go_still_tail 5, (by kernel_rfl)
    change wpList _ _ _ _ _ W.drew
    have hD : Below W.heap.size W W.drew := (Below.refl _ _).drew
    obtain ⟨W1, hW1⟩ : ∃ W1, W.drew = W1 := ⟨_, rfl⟩
    rw [hW1] at hD ⊢
    clear hW1
    have k3 := bk_below K2.out hD
    have hO1 := HO.out.below hD
    have hB1 := HB.out.trans (hD.mono hszW)
    have hs1 := Nat.le_trans hszW hD.size
    go_wp2_with fail
    refine (add_any t base p xs w0 W1 hB1 hs1 hO1 (by omega)).mono ?_
    rintro e Wx ⟨rfl, hOx, hBx, hsx, hBb, hTx⟩
    have k4 := hTx _ _ _ k3 (by decide) (by decide)
    have r3 : Wx.cell? ⟨w.heap.size, 3, none⟩ = some (.slice A3 ps.length c3) := (bk_cell k4 3).trans rfl
    obtain ⟨ys, hys⟩ : ∃ ys, xs ++ [t] = ys := ⟨_, rfl⟩
    rw [hys] at hOx HRR2
    have hylen : ys.length ≤ 50001 := by rw [← hys]; simp; omega
    clear hys hx HO HB hszW K2
    have HO := Lib.hid hOx
    have HB := Lib.hid hBx
    have hszW := hsx
    clear hOx hBx hBb hTx k4 k3 hO1 hB1 hs1 hD hsx
    go_wp2_with fail
    go_loopw [18] (fun iv wr => ∃ i : Nat, i ≤ ps.length ∧ iv = .int .i64 i ∧ OwnT wr base p (ys ++ fromP (ps.take i)) ∧ Below base w0 wr ∧ base ≤ wr.heap.size) (fun iv _ => ps.length - (intOf iv).toNat)
    case atStart => exact ⟨0, by omega, rfl, by simpa [fromP] using HO.out, HB.out, hszW⟩
    case round =>
      obtain ⟨i, hi, rfl, hO, hb, hs⟩ := hrel
      have HOi := Lib.hid hO
      have HBi := Lib.hid hb
      clear hO hb HO HB hszW
      by_cases hlt : i < ps.length
      · obtain ⟨β, o, rfl, hβ, q0, q1⟩ := part_cells G3.out i hlt
        rw [hbase] at hβ
        have q0 := (HBi.out.cell (p := ⟨β, o + i * 2, none⟩) hβ).trans q0
        have q1 := (HBi.out.cell (p := ⟨β, o + i * 2 + 1, none⟩) hβ).trans q1
        have HN := Lib.hid (fromP_succ ps i hlt)
        obtain ⟨pt, hpt⟩ : ∃ pt, rd_T51 ps (i : Int) = pt := ⟨_, rfl⟩
        rw [hpt] at q0 q1 HN
        clear hpt
        obtain ⟨pb, px⟩ := pt
        dsimp only at q0 q1 HN
        obtain ⟨Wi, hWi⟩ : ∃ Wi, Wi = wr.alloc (Obj.cells #[Value.bool pb, Value.string px] 51) := ⟨_, rfl⟩
        have hbi : Below wr.heap.size wr Wi := by rw [hWi]; exact (Below.refl _ _).alloc (Nat.le_refl _) _
        have k5 : Wi.heap[wr.heap.size]? = some (.cells #[Value.bool pb, Value.string px] 51) := by rw [hWi]; exact bk_new _ _
        have t0 : Wi.cell? ⟨wr.heap.size, 0, none⟩ = some (.bool pb) := (bk_cell k5 0).trans rfl
        have t1 : Wi.cell? ⟨wr.heap.size, 1, none⟩ = some (.string px) := (bk_cell k5 1).trans rfl
        have hOi := HOi.out.below hbi
        have hBi := HBi.out.trans (hbi.mono hs)
        have hsi := Nat.le_trans hs hbi.size
        have HOj := Lib.hid hOi
        have HBj := Lib.hid hBi
        have HWi := Lib.hid hWi
        have hlen2 : (fromP (ps.take i)).length ≤ 100 := by
          have := fromP_len (ps.take i)
          rw [List.length_take] at this
          omega
        clear hWi k5 hOi hBi hbi
        cases pb
        · go_wp2_with fail
          rw [← HWi.out]
          go_wp2_with fail
          go_roundw
          case rel => exact ⟨i + 1, by omega, by go_num, by rw [HN.out]; simpa using HOj.out, HBj.out, hsi⟩
          case measure => simp [intOf]; omega
        · go_wp2_with fail
          rw [← HWi.out]
          go_wp2_with fail
          go_still_tail 5, (by kernel_rfl)
          change wpList _ _ _ _ _ Wi.drew
          have hD : Below Wi.heap.size Wi Wi.drew := (Below.refl _ _).drew
          obtain ⟨W1, hW1⟩ : ∃ W1, Wi.drew = W1 := ⟨_, rfl⟩
          rw [hW1] at hD ⊢
          clear hW1
          have hO1 := HOj.out.below hD
          have hB1 := HBj.out.trans (hD.mono hsi)
          have hs1 := Nat.le_trans hsi hD.size
          go_wp2_with fail
          refine (add_any px base p (ys ++ fromP (ps.take i)) w0 W1 hB1 hs1 hO1 (by rw [List.length_append]; omega)).mono ?_
          rintro e Wy ⟨rfl, hOy, hBy, hsy, hBb, hTx⟩
          have HOy := Lib.hid hOy
          have HBy := Lib.hid hBy
          clear hOy hBy hBb hTx hO1 hB1 hD
          go_wp2_with fail
          go_roundw
          case rel => exact ⟨i + 1, by omega, by go_num, by rw [HN.out]; simpa using HOy.out, HBy.out, hsy⟩
          case measure => simp [intOf]; omega
      · obtain rfl : i = ps.length := by omega
        go_wp2_with fail
        go_end0
        refine ⟨rfl, ?_, HBi.out⟩
        have := HOi.out
        rw [List.take_length, HRR2.out] at this
        exact this
end Go.Proofs.Ytbmjdkbakeckoaa
namespace Go.Proofs.Ytbmjdkbakeckoaa
open Go Go.RowKit Go.Proofs.YtbmjdkbakeckoaaW.PrintWords Go.Proofs.YtbmjdkbakeckoaaW.PrintLast Go.Proofs.YtbmjdkbakeckoaaW.PrintMore Go.Proofs.Ytbmjdkbakeckoaa.PRefsAll
set_option maxRecDepth 100000
set_option linter.unusedSimpArgs false
set_option linter.unusedVariables false
set_option maxHeartbeats 4000000

theorem insert_nil (w : World) : Calls Try.prog 61 #[.slice none 0 0, .int .i64 0, .int .i64 0] w fun e w' => e = .returned (.tuple #[]) ∧ w' = w := by
  go_enter Try.func61, Try.ntmps61
  go_wp2_with fail
  go_loopw [6] (fun v wr => v = .int .i64 1 ∧ wr = w) (fun _ _ => 0)
  case atStart => exact ⟨rfl, rfl⟩
  case round =>
    obtain ⟨rfl, rfl⟩ := hrel
    go_wp2_with fail
    go_end0
    exact ⟨rfl, rfl⟩
theorem sort_nil (w : World) : Calls Try.prog 41 #[.slice none 0 0] w fun e w' => e = .returned (.tuple #[]) ∧ w' = w := by
  have h51 : ∀ (d : Int) W, Calls Try.prog 51 #[.slice none 0 0, .int .i64 0, .int .i64 0, .int .i64 d] W fun e w' => e = .returned (.tuple #[]) ∧ w' = W := by
    intro d W
    go_enter Try.func51, Try.ntmps51
    go_wp2_with fail
    go_loopw [1, 2] (fun a b wr => a = .int .i64 0 ∧ b = .int .i64 0 ∧ wr = W) (fun _ _ _ => 0)
    case atStart => exact ⟨rfl, rfl, rfl⟩
    case round =>
      obtain ⟨rfl, rfl, rfl⟩ := hrel
      go_wp2_with fail
      refine (insert_nil _).mono ?_
      rintro e w' ⟨rfl, hw⟩
      subst hw
      go_wp2_with fail
      refine bodyPost_ret (results_none rfl _ _ _) rfl ?_
      exact ⟨rfl, rfl⟩
  go_enter Try.func41, Try.ntmps41
  go_wp2_with fail
  refine (Try.bits_Len 0 _ (by decide) (by decide)).mono ?_
  rintro e w' ⟨rfl, hw⟩
  subst hw
  go_wp2_with fail
  refine (h51 _ _).mono ?_
  rintro e w' ⟨rfl, hw⟩
  subst hw
  go_wp2_with fail
  go_end0
  exact ⟨rfl, rfl⟩

def ofL (l : List UInt8) : ByteArray := ⟨l.toArray⟩
def toL (x : ByteArray) : List UInt8 := x.data.toList
theorem ofL_toL (x : ByteArray) : ofL (toL x) = x := by unfold ofL toL; cases x; simp
theorem toL_ofL (l : List UInt8) : toL (ofL l) = l := by unfold ofL toL; simp
/-- Texts, rising, each once. -/
def onceL (xs : List ByteArray) : List (List UInt8) := Lib.compact ((xs.map toL).mergeSort fun x y => decide (x ≤ y))
def onceF (xs : List ByteArray) : List ByteArray := (onceL xs).map ofL
theorem onceF_len (xs : List ByteArray) : (onceF xs).length ≤ xs.length := by
  unfold onceF onceL
  rw [List.length_map]
  refine Nat.le_trans (Lib.compact_length_le _) ?_
  simp

theorem once_any (base p : Nat) (xs : List ByteArray) (w0 w : World) (hb0 : Below base w0 w) (hs : base ≤ w.heap.size) (h : OwnT w base p xs) (hx : xs.length ≤ 100000) :
    Calls Try.prog 31 #[.pointer (some ⟨p, 0, none⟩)] w fun e w' => (∃ A c, e = .returned (.slice A (onceF xs).length c) ∧ (onceF xs).length ≤ c ∧ Kd.string.C w' A (onceF xs).length (onceF xs)) ∧ Below base w0 w' ∧ base ≤ w'.heap.size := by
  obtain ⟨v, k1, k2, hR⟩ := h
  have hown := Kd.own_of_R hR
  have hne := hR.1
  have hlt := bk_lt k1
  rcases hown.2 with ⟨rfl, hn⟩ | ⟨g, cap, cur, rfl, hg, hh, h1, h2, h3, h4⟩
  · obtain rfl := List.eq_nil_of_length_eq_zero hn
    have d0 : w.cell? ⟨p, 0, none⟩ = some (.slice none 0 0) := (bk_cell k1 0).trans rfl
    clear hown hne hR k1
    have ho : onceF [] = [] := List.eq_nil_of_length_eq_zero (Nat.le_zero.1 (onceF_len []))
    rw [ho]
    have HB := Lib.hid hb0
    clear hb0
    go_enter Try.func31, Try.ntmps31
    go_wp2_with fail
    refine (sort_nil _).mono ?_
    rintro e w' ⟨rfl, hw⟩
    subst hw
    go_wp2_with fail
    refine (Try.slices_Compact_string_empty none 0 _).mono ?_
    rintro e w' ⟨rfl, hw⟩
    subst hw
    go_wp2_with fail
    refine (Try.slices_Clone_string_nil 0 0 _).mono ?_
    rintro e w' ⟨rfl, hw⟩
    subst hw
    go_wp2_with fail
    go_ret
    exact ⟨⟨none, 0, rfl, Nat.le_refl _, Kd.C_nil _ _⟩, HB.out, hs⟩
  · obtain ⟨ss, hss⟩ : ∃ ss, xs.map toL = ss := ⟨_, rfl⟩
    have hl : ss.length = xs.length := by rw [← hss]; simp
    have hpg : p ≠ g := fun e => hne g rfl e.symm
    have h4' : cur.toList.take ss.length = ss.map encStr := by
      rw [hl]
      rw [Nat.mul_one] at h4
      rw [h4, ← hss]
      unfold encs
      rw [List.map_map]
      congr 1
    have hsort := Try.slices_Sort_string g 0 cap ss w (holds_of_block hh h4') (bk_lt hh) (by omega)
    obtain ⟨ts, hts⟩ : ∃ ts, (ss.mergeSort fun x y => decide (x ≤ y)) = ts := ⟨_, rfl⟩
    rw [hts, hl] at hsort
    have htl : ts.length = xs.length := by rw [← hts]; simp [hl]
    have hon : onceL xs = Lib.compact ts := by unfold onceL; rw [hss, hts]
    have hcl := Lib.compact_length_le ts
    have d0 : w.cell? ⟨p, 0, none⟩ = some (.slice (some ⟨g, 0, none⟩) xs.length cap) := (bk_cell k1 0).trans rfl
    have HSo := Lib.hid hsort
    have K1 := Lib.hid k1
    have HH := Lib.hid hh
    have HB := Lib.hid hb0
    have HCS := Lib.hid (show ts.length ≤ cur.size by rw [h3, htl]; omega)
    clear hown hne hR k1 hsort h4 h4' hss hl hts hh hb0 h3
    go_enter Try.func31, Try.ntmps31
    go_wp2_with fail
    refine HSo.out.mono ?_
    rintro e w1 ⟨rfl, n1, os1, hw1⟩
    have hg1 : w.grownBy w1 (some g) := by rw [hw1]; exact grownBy_sorted _
    have hh1 : w1.heap[g]? = some (.cells (Sort.putCells encStr 0 ts.toArray cur) 9 (0, 0)) := by rw [hw1]; exact heap_sorted _ HH.out
    have k3 := (hg1.block p hlt (by simpa using hpg)).trans K1.out
    have d1 : w1.cell? ⟨p, 0, none⟩ = some (.slice (some ⟨g, 0, none⟩) xs.length cap) := (bk_cell k3 0).trans rfl
    have hB1 := HB.out.grown hg1 hs (fun k e => by cases e; exact hg)
    have hs1 : base ≤ w1.heap.size := Nat.le_trans hs (by rw [hw1]; simp)
    have HH1 := Lib.hid hh1
    have HB1 := Lib.hid hB1
    have hcom := Try.slices_Compact_string g 0 cap ts w1 (holds_of_block hh1 (take_putCells cur ts HCS.out)) (by omega) (by omega)
    rw [htl] at hcom
    have HCo := Lib.hid hcom
    clear hw1 hg1 hh1 k3 hB1 hcom HSo
    go_wp2_with fail
    refine HCo.out.mono ?_
    rintro e w2 ⟨rfl, n2, hw2⟩
    obtain ⟨us, hus⟩ : ∃ us, (Lib.compact ts ++ List.replicate (xs.length - (Lib.compact ts).length) ([] : List UInt8)) = us := ⟨_, rfl⟩
    rw [hus] at hw2
    have hw2' : w2 = Sort.grow (Sort.putRow encStr (Sort.ahead w1 n2) g 0 us.toArray) #[] := by rw [hw2, Sort.grow_empty]
    have hg2 : w1.grownBy w2 (some g) := by rw [hw2']; exact grownBy_sorted _
    have hh2 : w2.heap[g]? = some (.cells (Sort.putCells encStr 0 us.toArray (Sort.putCells encStr 0 ts.toArray cur)) 9 (0, 0)) := by rw [hw2']; exact heap_sorted _ HH1.out
    have hul : us.length = xs.length := by rw [← hus]; simp; omega
    have htk := take_putCells (Sort.putCells encStr 0 ts.toArray cur) us (by rw [hul, ← htl]; have := HCS.out; simp [Sort.putCells]; exact this)
    have hB2 := HB1.out.grown hg2 hs1 (fun k e => by cases e; exact hg)
    have hs2 : base ≤ w2.heap.size := Nat.le_trans hs1 (by rw [hw2]; simp)
    have hcells : ∀ j, j < ((Lib.compact ts).map ofL).length → w2.cell? ⟨g, 0 + j, none⟩ = some (.string (((Lib.compact ts).map ofL).getD j ByteArray.empty)) := by
      intro j hj
      rw [List.length_map] at hj
      rw [Nat.zero_add, bk_cell hh2, ← Array.getElem?_toList]
      have h5 := congrArg (·[j]?) htk
      simp only [List.getElem?_map] at h5
      rw [List.getElem?_take_of_lt (by omega)] at h5
      rw [h5, ← hus, List.getElem?_append_left hj, List.getElem?_eq_getElem hj]
      simp [hj, ofL]
    have hclo := Try.slices_Clone_string g 0 ((Lib.compact ts).map ofL).length cap ((Lib.compact ts).map ofL) w2 (Nat.le_refl _) (by rw [List.length_map]; omega) hcells
    rw [List.take_length] at hclo
    have hfin : onceF xs = (Lib.compact ts).map ofL := by unfold onceF; rw [hon]
    rw [← hfin] at hclo
    have hfl : (Lib.compact ts).length = (onceF xs).length := by rw [hfin, List.length_map]
    have HCl := Lib.hid hclo
    have HB2 := Lib.hid hB2
    rw [hfl]
    clear hw2 hw2' hus hg2 hh2 htk hB2 hcells hclo hfin HCo HH1 HCS HH
    go_wp2_with fail
    refine HCl.out.mono ?_
    rintro e w3 ⟨v', rfl, hv, _, hb3⟩
    obtain ⟨A, c, rfl, hle, hC⟩ := Kd.R_reads (Kd.R_of_own (enc := Value.string) (h1 := fun _ => rfl) (ok := fun _ => True) hv (fun _ _ => trivial))
    have HC := Lib.hid hC
    have HB3 := Lib.hid (HB2.out.trans (hb3.mono hs2))
    have hs3 := Nat.le_trans hs2 hb3.size
    clear hv hb3 hC
    go_wp2_with fail
    go_ret
    exact ⟨⟨A, c, rfl, hle, HC.out⟩, HB3.out, hs3⟩
end Go.Proofs.Ytbmjdkbakeckoaa
namespace Go.Proofs.Ytbmjdkbakeckoaa
open Go Go.RowKit Go.Proofs.YtbmjdkbakeckoaaW.PrintWords Go.Proofs.YtbmjdkbakeckoaaW.PrintLast Go.Proofs.YtbmjdkbakeckoaaW.PrintMore Go.Proofs.Ytbmjdkbakeckoaa.PRefsAll
set_option maxRecDepth 100000
set_option linter.unusedSimpArgs false
set_option linter.unusedVariables false
set_option maxHeartbeats 4000000

theorem refsOf_len (x : S47) (h : x.f3.length ≤ 100) : (refsOf x).length ≤ 101 := by
  unfold refsOf
  have := fromP_len x.f3
  unfold fromP at this
  rw [List.length_append]
  split
  · simp only [List.length_singleton]; omega
  · simp only [List.length_nil]; omega
theorem flat_len : ∀ (l : List S47), (∀ x ∈ l, x.f3.length ≤ 100) → (l.flatMap refsOf).length ≤ l.length * 101
  | [], _ => by simp
  | x :: l, h => by
    rw [List.flatMap_cons, List.length_append, List.length_cons]
    have h1 := refsOf_len x (h x List.mem_cons_self)
    have h2 := flat_len l (fun y hy => h y (List.mem_cons_of_mem _ hy))
    omega
/-- All that an expression refers to. -/
def ofF (l : List S47) : List ByteArray := if treeP l then onceF (l.flatMap refsOf) else []

theorem of_any (l : List S47) (A : Option Addr) (c : Nat) (m : Int) (w : World) (hm : w.cell? ⟨0, 0, none⟩ = some (.int .i64 m)) (hf : Fits l) (hl : Kd.C k47 w A l.length l) :
    Calls Try.prog 12 #[.slice A l.length c] w fun e w' => (∃ A c, e = .returned (.slice A (ofF l).length c) ∧ (ofF l).length ≤ c ∧ Kd.string.C w' A (ofF l).length (ofF l)) ∧ Below w.heap.size w w' := by
  have HT := Lib.hid (tree_is l A c m w hm hf hl)
  have HL := Lib.hid hl
  have HF := Lib.hid hf
  have hlen := hf.1
  have HFL := Lib.hid (fun i => flat_len (l.take i) (fun x hx => (hf.2 x (List.mem_of_mem_take hx)).2.1))
  clear hm hl hf
  obtain ⟨τ, hτ⟩ : ∃ τ, treeP l = τ := ⟨_, rfl⟩
  have HO := Lib.hid (show ofF l = if τ then onceF (l.flatMap refsOf) else [] by unfold ofF; rw [hτ])
  rw [hτ] at HT
  clear hτ
  go_enter Try.func12, Try.ntmps12
  go_wp2_with fail
  refine HT.out.mono ?_
  rintro e w1 ⟨rfl, hb1⟩
  clear HT
  cases τ
  · go_wp2_with fail
    go_ret
    rw [HO.out]
    exact ⟨⟨none, 0, rfl, Nat.le_refl _, Kd.C_nil _ _⟩, hb1⟩
  · obtain ⟨W, hW⟩ : ∃ W, W = w1.alloc (Obj.cells #[Value.slice none 0 0] 67) := ⟨_, rfl⟩
    have hbW : Below w1.heap.size w1 W := by rw [hW]; exact (Below.refl _ _).alloc (Nat.le_refl _) _
    have k1 : W.heap[w1.heap.size]? = some (.cells #[Value.slice none 0 0] 67) := by rw [hW]; exact bk_new _ _
    have hB := hb1.trans (hbW.mono hb1.size)
    have hO : OwnT W w.heap.size w1.heap.size ([] : List ByteArray) := ⟨_, k1, hb1.size, Kd.R_nil _ _ _ _ _⟩
    have HB := Lib.hid hB
    have HOw := Lib.hid hO
    have HW := Lib.hid hW
    clear hW hbW k1 hB hO
    go_wp2_with fail
    rw [← HW.out]
    go_loopw [13] (fun iv wr => ∃ i : Nat, i ≤ l.length ∧ iv = .int .i64 i ∧ OwnT wr w.heap.size w1.heap.size ((l.take i).flatMap refsOf) ∧ Below w.heap.size w wr) (fun iv _ => l.length - (intOf iv).toNat)
    case atStart => exact ⟨0, by omega, rfl, by simpa using HOw.out, HB.out⟩
    case round =>
      obtain ⟨i, hi, rfl, hO, hb⟩ := hrel
      have HOi := Lib.hid hO
      have HBi := Lib.hid hb
      clear hO hb
      by_cases hlt : i < l.length
      · obtain ⟨β, o, A3, c3, A4, c4, rfl, hβ, q0, q1, q2, q3, q4, h5, h6, h7, h8⟩ := node_cells HL.out i hlt
        have q0 := (HBi.out.cell (p := ⟨β, o + i * 5, none⟩) hβ).trans q0
        have q1 := (HBi.out.cell (p := ⟨β, o + i * 5 + 1, none⟩) hβ).trans q1
        have q2 := (HBi.out.cell (p := ⟨β, o + i * 5 + 2, none⟩) hβ).trans q2
        have q3 := (HBi.out.cell (p := ⟨β, o + i * 5 + 3, none⟩) hβ).trans q3
        have q4 := (HBi.out.cell (p := ⟨β, o + i * 5 + 4, none⟩) hβ).trans q4
        have hrd := rd47 l i hlt
        have hmem := List.mem_of_getElem? hrd
        have hfx := (HF.out.2 _ hmem).2.1
        have HN := Lib.hid (show (l.take (i + 1)).flatMap refsOf = (l.take i).flatMap refsOf ++ refsOf (rd_T47 l i) by
          rw [List.take_add_one, hrd]; simp)
        have hll := HFL.out i
        rw [List.length_take] at hll
        obtain ⟨Wi, hWi⟩ : ∃ Wi, Wi = wr.alloc (Obj.cells #[Value.int IntKind.i64 (rd_T47 l i).f0, Value.int IntKind.i64 (rd_T47 l i).f1, Value.string (rd_T47 l i).f2, Value.slice A3 (rd_T47 l i).f3.length c3, Value.slice A4 (rd_T47 l i).f4.length c4] 47) := ⟨_, rfl⟩
        have hbi : Below wr.heap.size wr Wi := by rw [hWi]; exact (Below.refl _ _).alloc (Nat.le_refl _) _
        have k5 : Wi.heap[wr.heap.size]? = some (.cells #[Value.int IntKind.i64 (rd_T47 l i).f0, Value.int IntKind.i64 (rd_T47 l i).f1, Value.string (rd_T47 l i).f2, Value.slice A3 (rd_T47 l i).f3.length c3, Value.slice A4 (rd_T47 l i).f4.length c4] 47) := by rw [hWi]; exact bk_new _ _
        have hnode := node_any (rd_T47 l i) A3 A4 c3 (rd_T47 l i).f4.length c4 w1.heap.size ((l.take i).flatMap refsOf) w Wi (HBi.out.trans (hbi.mono HBi.out.size)) (HOi.out.below hbi) (by omega) h6 hfx
        obtain ⟨x, hx⟩ : ∃ x, rd_T47 l i = x := ⟨_, rfl⟩
        rw [hx] at q0 q1 q2 q3 q4 hWi hnode HN k5
        obtain ⟨k, n, t, ps, ks⟩ := x
        dsimp only at q0 q1 q2 q3 q4 hWi hnode k5
        have t0 : Wi.cell? ⟨wr.heap.size, 0, none⟩ = some (.int .i64 k) := (bk_cell k5 0).trans rfl
        have t1 : Wi.cell? ⟨wr.heap.size, 1, none⟩ = some (.int .i64 n) := (bk_cell k5 1).trans rfl
        have t2 : Wi.cell? ⟨wr.heap.size, 2, none⟩ = some (.string t) := (bk_cell k5 2).trans rfl
        have t3 : Wi.cell? ⟨wr.heap.size, 3, none⟩ = some (.slice A3 ps.length c3) := (bk_cell k5 3).trans rfl
        have t4 : Wi.cell? ⟨wr.heap.size, 4, none⟩ = some (.slice A4 ks.length c4) := (bk_cell k5 4).trans rfl
        have HNo := Lib.hid hnode
        have HWi := Lib.hid hWi
        clear hnode hWi k5 hbi hx hrd hmem hfx h5 h6 h7 h8 hll
        go_wp2_with fail
        rw [← HWi.out]
        go_wp2_with fail
        refine HNo.out.mono ?_
        rintro e W2 ⟨rfl, hO2, hB2⟩
        have HO2 := Lib.hid hO2
        have HB2 := Lib.hid hB2
        clear hO2 hB2 HNo
        go_wp2_with fail
        go_roundw
        case rel => exact ⟨i + 1, by omega, by go_num, by rw [HN.out]; exact HO2.out, HB2.out⟩
        case measure => simp [intOf]; omega
      · obtain rfl : i = l.length := by omega
        have hll := HFL.out l.length
        rw [List.take_length] at hll HOi
        have hon := once_any w.heap.size w1.heap.size (l.flatMap refsOf) w wr HBi.out HBi.out.size HOi.out (by omega)
        have HOn := Lib.hid hon
        clear hon hll
        go_wp2_with fail
        refine HOn.out.mono ?_
        rintro e W2 ⟨⟨A', c', rfl, hle, hC⟩, hB2, _⟩
        have HC := Lib.hid hC
        clear hC HOn
        go_wp2_with fail
        go_ret
        rw [HO.out]
        exact ⟨⟨A', c', rfl, hle, HC.out⟩, hB2⟩
end Go.Proofs.Ytbmjdkbakeckoaa
namespace Go.Proofs.Ytbmjdkbakeckoaa
open Go Go.RowKit Go.Proofs.YtbmjdkbakeckoaaW.PrintWords Go.Proofs.Ytbmjdkbakeckoaa.PRefsAll
set_option linter.unusedSimpArgs false
set_option linter.unusedVariables false

/-- A text put in a rising list, once. -/
def putL : List (List UInt8) → List UInt8 → List (List UInt8)
  | [], a => [a]
  | x :: l, a => if x < a then x :: putL l a else if x = a then x :: l else a :: x :: l

theorem lt_of_not {x a : List UInt8} (h1 : ¬ x < a) (h2 : x ≠ a) : a < x := by
  by_cases h : a < x
  · exact h
  · exact absurd (List.le_antisymm (List.not_lt.1 h) (List.not_lt.1 h1)) h2
theorem putL_mem (a : List UInt8) : ∀ (l : List (List UInt8)) (y : List UInt8), y ∈ putL l a ↔ y = a ∨ y ∈ l
  | [], y => by simp [putL]
  | x :: l, y => by
    simp only [putL]
    split
    · rw [List.mem_cons, putL_mem a l y, List.mem_cons]
      constructor
      · rintro (h | h | h)
        · exact .inr (.inl h)
        · exact .inl h
        · exact .inr (.inr h)
      · rintro (h | h | h)
        · exact .inr (.inl h)
        · exact .inl h
        · exact .inr (.inr h)
    · split
      · rename_i h1 h2
        subst h2
        simp
      · simp
theorem putL_up (a : List UInt8) : ∀ (l : List (List UInt8)), l.Pairwise (· < ·) → (putL l a).Pairwise (· < ·)
  | [], _ => by simp [putL]
  | x :: l, h => by
    simp only [putL]
    rw [List.pairwise_cons] at h
    split
    · rename_i h1
      rw [List.pairwise_cons]
      refine ⟨fun y hy => ?_, putL_up a l h.2⟩
      rcases (putL_mem a l y).1 hy with rfl | hy
      · exact h1
      · exact h.1 y hy
    · split
      · rw [List.pairwise_cons]; exact h
      · rename_i h1 h2
        have h3 := lt_of_not h1 h2
        rw [List.pairwise_cons]
        refine ⟨fun y hy => ?_, by rw [List.pairwise_cons]; exact h⟩
        rcases List.mem_cons.1 hy with rfl | hy
        · exact h3
        · exact List.lt_trans h3 (h.1 y hy)
theorem fold_mem : ∀ (xs l : List (List UInt8)) (y : List UInt8), y ∈ xs.foldl putL l ↔ y ∈ xs ∨ y ∈ l
  | [], l, y => by simp
  | x :: xs, l, y => by
    rw [List.foldl_cons, fold_mem xs (putL l x) y, putL_mem, List.mem_cons]
    constructor
    · rintro (h | h | h)
      · exact .inl (.inr h)
      · exact .inl (.inl h)
      · exact .inr h
    · rintro ((h | h) | h)
      · exact .inr (.inl h)
      · exact .inl h
      · exact .inr (.inr h)
theorem fold_up : ∀ (xs l : List (List UInt8)), l.Pairwise (· < ·) → (xs.foldl putL l).Pairwise (· < ·)
  | [], l, h => h
  | x :: xs, l, h => fold_up xs _ (putL_up x l h)

/-- Two rising lists of the same members are one. -/
theorem up_unique : ∀ (a b : List (List UInt8)), a.Pairwise (· < ·) → b.Pairwise (· < ·) → (∀ y, y ∈ a ↔ y ∈ b) → a = b
  | [], [], _, _, _ => rfl
  | [], y :: b, _, _, h => absurd ((h y).2 List.mem_cons_self) (by simp)
  | x :: a, [], _, _, h => absurd ((h x).1 List.mem_cons_self) (by simp)
  | x :: a, y :: b, ha, hb, h => by
    rw [List.pairwise_cons] at ha hb
    have hxy : x = y := by
      rcases List.mem_cons.1 ((h x).1 List.mem_cons_self) with e | e
      · exact e
      · rcases List.mem_cons.1 ((h y).2 List.mem_cons_self) with e2 | e2
        · exact e2.symm
        · exact absurd (List.lt_trans (ha.1 y e2) (hb.1 x e)) (List.lt_irrefl x)
    subst hxy
    congr 1
    refine up_unique a b ha.2 hb.2 fun z => ?_
    constructor
    · intro hz
      rcases List.mem_cons.1 ((h z).1 (List.mem_cons_of_mem _ hz)) with e | e
      · subst e; exact absurd (ha.1 z hz) (List.lt_irrefl z)
      · exact e
    · intro hz
      rcases List.mem_cons.1 ((h z).2 (List.mem_cons_of_mem _ hz)) with e | e
      · subst e; exact absurd (hb.1 z hz) (List.lt_irrefl z)
      · exact e

section
open Go.Lib
theorem upTo_mem (d : Array (List UInt8)) : ∀ m y, y ∈ compactUpTo d m → ∃ j, j < m ∧ y = d[j]! := by
  intro m y hy
  unfold compactUpTo at hy
  obtain ⟨j, hj, rfl⟩ := List.mem_map.1 hy
  exact ⟨j, List.mem_range.1 (List.mem_filter.1 hj).1, rfl⟩
theorem upTo_all (d : Array (List UInt8)) : ∀ m j, j < m → d[j]! ∈ compactUpTo d m
  | 0, j, h => absurd h (by omega)
  | m + 1, j, h => by
    rw [compactUpTo_succ, List.mem_append]
    by_cases hj : j < m
    · exact .inl (upTo_all d m j hj)
    · obtain rfl : j = m := by omega
      by_cases hk : keeps d j = true
      · exact .inr (by rw [if_pos hk]; exact List.mem_singleton_self _)
      · left
        have hk2 : ¬ (j = 0 ∨ d[j]! ≠ d[j - 1]!) := by
          intro e
          exact hk (by unfold keeps; exact decide_eq_true e)
        have h0 : j ≠ 0 := fun e => hk2 (.inl e)
        have h1 : d[j]! = d[j - 1]! := by
          by_cases e : d[j]! = d[j - 1]!
          · exact e
          · exact absurd (.inr e) hk2
        rw [h1]
        exact upTo_all d j (j - 1) (by omega)
theorem upTo_up (d : Array (List UInt8)) (hd : ∀ i j, i < j → j < d.size → d[i]! ≤ d[j]!) : ∀ m, m ≤ d.size → (compactUpTo d m).Pairwise (· < ·)
  | 0, _ => by simp [compactUpTo]
  | m + 1, hm => by
    rw [compactUpTo_succ, List.pairwise_append]
    refine ⟨upTo_up d hd m (by omega), by split <;> simp, fun x hx y hy => ?_⟩
    split at hy
    · rename_i hk
      obtain rfl := List.mem_singleton.1 hy
      obtain ⟨j, hj, rfl⟩ := upTo_mem d m x hx
      have hk2 : m = 0 ∨ d[m]! ≠ d[m - 1]! := by unfold keeps at hk; exact of_decide_eq_true hk
      have hne : d[m]! ≠ d[m - 1]! := by
        rcases hk2 with e | e
        · omega
        · exact e
      have hle : d[j]! ≤ d[m - 1]! := by
        by_cases hjm : j = m - 1
        · rw [hjm]; exact List.le_refl _
        · exact hd j (m - 1) (by omega) (by omega)
      have hlt : d[m - 1]! < d[m]! := by
        by_cases e : d[m - 1]! < d[m]!
        · exact e
        · exact absurd (List.le_antisymm (List.not_lt.1 e) (hd (m - 1) m (by omega) (by omega))) hne
      by_cases e : d[j]! < d[m]!
      · exact e
      · have h3 := List.not_lt.1 e
        have h4 : d[m]! ≤ d[m - 1]! := List.le_trans h3 hle
        exact absurd hlt (List.not_lt.2 h4)
    · cases hy
end

/-- Sorted and struck, or put in one by one. -/
theorem once_put (xs : List (List UInt8)) : Lib.compact (xs.mergeSort fun x y => decide (x ≤ y)) = xs.foldl putL [] := by
  obtain ⟨zs, hzs⟩ : ∃ zs, (xs.mergeSort fun x y => decide (x ≤ y)) = zs := ⟨_, rfl⟩
  have hp : zs.Perm xs := by rw [← hzs]; exact List.mergeSort_perm _ _
  have hs : zs.Pairwise (fun a b => decide (a ≤ b) = true) := by
    rw [← hzs]
    exact List.pairwise_mergeSort (fun a b c h1 h2 => by simp only [decide_eq_true_eq] at *; exact List.le_trans h1 h2) (fun a b => by simp only [Bool.or_eq_true, decide_eq_true_eq]; exact List.le_total a b) xs
  rw [hzs]
  have hget : ∀ i (h : i < zs.length), zs.toArray[i]! = zs[i] := fun i h => by simp [h]
  have hd : ∀ i j, i < j → j < zs.toArray.size → zs.toArray[i]! ≤ zs.toArray[j]! := by
    intro i j hij hj
    have hj2 : j < zs.length := by simpa using hj
    rw [hget i (by omega), hget j hj2]
    have := List.pairwise_iff_getElem.1 hs i j (by omega) hj2 hij
    exact of_decide_eq_true this
  refine up_unique _ _ ?_ (fold_up _ _ List.Pairwise.nil) fun y => ?_
  · exact upTo_up zs.toArray hd zs.length (by simp)
  · rw [fold_mem, ← hp.mem_iff]
    constructor
    · intro hy
      obtain ⟨j, hj, rfl⟩ := upTo_mem _ _ _ hy
      rw [hget j hj]
      exact .inl (List.getElem_mem hj)
    · rintro (hy | hy)
      · obtain ⟨j, hj, rfl⟩ := List.getElem_of_mem hy
        have := upTo_all zs.toArray zs.length j hj
        rw [hget j hj] at this
        exact this
      · cases hy
end Go.Proofs.Ytbmjdkbakeckoaa
namespace Go.Proofs.Ytbmjdkbakeckoaa
open Go Go.RowKit Go.Proofs.YtbmjdkbakeckoaaW.PrintWords Go.Proofs.YtbmjdkbakeckoaaW.PrintLast Go.Proofs.YtbmjdkbakeckoaaW.PrintMore Go.Proofs.Ytbmjdkbakeckoaa.PRefsAll
set_option maxRecDepth 100000
set_option linter.unusedSimpArgs false
set_option linter.unusedVariables false
set_option maxHeartbeats 4000000

theorem toList_toL (x : ByteArray) : x.toList = toL x := by unfold toL; rw [ByteArray.toList_eq]
theorem toL_inj {x y : ByteArray} (h : toL x = toL y) : x = y := by rw [← ofL_toL x, h, ofL_toL]
theorem map_ofL_toL (l : List ByteArray) : (l.map toL).map ofL = l := by
  rw [List.map_map]
  conv => rhs; rw [← List.map_id l]
  apply List.map_congr_left
  intro x _
  exact ofL_toL x
theorem putL_len (a : List UInt8) : ∀ (l : List (List UInt8)), (putL l a).length ≤ l.length + 1
  | [] => by simp [putL]
  | x :: l => by
    simp only [putL]
    split
    · have := putL_len a l
      simp only [List.length_cons]
      omega
    · split <;> simp

theorem put_loop (l : List ByteArray) (a : ByteArray) (hl : l.length ≤ 100000) :
    ∀ (d i k : Nat), i + d = l.length → d + 1 ≤ k → doorkeeperref4_put.l0 k l a i = some (l.take i ++ (putL ((l.drop i).map toL) (toL a)).map ofL)
  | 0, i, k, hi, hk => by
    obtain ⟨k, rfl⟩ : ∃ m, k = m + 1 := ⟨k - 1, by omega⟩
    obtain rfl : i = l.length := by omega
    simp only [doorkeeperref4_put.l0]
    rw [if_neg (by omega)]
    simp only [Option.bind_some]
    rw [if_pos (by omega), if_pos (by omega)]
    have e : ((l.length : Int)).toNat = l.length := by omega
    simp only [Option.bind_some, e, List.take_length, List.drop_length, List.nil_append, List.length_nil, List.append_nil, Nat.zero_add]
    rw [if_pos (by omega)]
    simp only [Option.bind_some, List.map_nil, putL, List.map_cons, ofL_toL]
    rw [if_pos (by omega)]
    simp only [Option.bind_some, List.length_append, List.length_singleton, List.length_nil]
    rw [if_pos (by omega)]
  | d + 1, i, k, hi, hk => by
    obtain ⟨k, rfl⟩ : ∃ m, k = m + 1 := ⟨k - 1, by omega⟩
    have hlt : i < l.length := by omega
    have ih := put_loop l a hl d (i + 1) k (by omega) (by omega)
    have hw : wrap64 ((i : Int) + 1) = ((i + 1 : Nat) : Int) := by unfold wrap64; omega
    have e : ((i : Int)).toNat = i := by omega
    have hr : rdOf ByteArray.empty l (i : Int) = l[i] := by unfold rdOf; rw [e]; simp [hlt]
    have hd : l.drop i = l[i] :: l.drop (i + 1) := List.drop_eq_getElem_cons hlt
    have ht : l.take (i + 1) = l.take i ++ [l[i]] := by rw [List.take_add_one, List.getElem?_eq_getElem hlt]; rfl
    simp only [doorkeeperref4_put.l0]
    rw [if_pos (by omega), if_pos (by omega), hr, hw, ih, bytesLess_eq, toList_toL, toList_toL]
    rw [hd, List.map_cons]
    simp only [putL]
    by_cases h1 : toL l[i] < toL a
    · rw [if_pos (decide_eq_true h1), if_pos h1, ht, List.map_cons, ofL_toL, List.append_assoc]
      rfl
    · rw [if_neg (by simpa using h1), if_neg h1]
      by_cases h2 : toL l[i] = toL a
      · rw [if_pos h2, if_pos h2, List.map_cons, ofL_toL, map_ofL_toL, ← hd, List.take_append_drop]
      · rw [if_neg h2, if_neg h2]
        have htl : (l.take i).length = i := by rw [List.length_take]; omega
        simp only [Option.bind_some]
        rw [if_pos (by omega)]
        simp only [Option.bind_some, e, List.nil_append, List.length_nil, Nat.zero_add, htl]
        rw [if_pos (by omega)]
        (try simp only [Option.bind_some, htl])
        rw [if_pos (by omega)]
        simp only [Option.bind_some, List.length_append, List.length_singleton, htl, List.length_drop]
        rw [if_pos (by omega)]
        rw [List.map_cons, List.map_cons, ofL_toL, ofL_toL, map_ofL_toL, hd, List.append_assoc]
        rfl
/-- A text put in a rising list of texts. -/
def putF (l : List ByteArray) (a : ByteArray) : List ByteArray := (putL (l.map toL) (toL a)).map ofL
theorem put_eq (l : List ByteArray) (a : ByteArray) (hl : l.length ≤ 100000) : doorkeeperref4_put.f 100002 l a = some (putF l a) := by
  unfold doorkeeperref4_put.f putF
  have := put_loop l a hl l.length 0 100002 (by omega) (by omega)
  rw [show ((0 : Nat) : Int) = 0 from rfl] at this
  simpa using this
theorem putF_len (l : List ByteArray) (a : ByteArray) : (putF l a).length ≤ l.length + 1 := by
  unfold putF
  rw [List.length_map]
  have := putL_len (toL a) (l.map toL)
  rwa [List.length_map] at this
theorem fold_putF : ∀ (xs l : List ByteArray), xs.foldl putF l = ((xs.map toL).foldl putL (l.map toL)).map ofL
  | [], l => (map_ofL_toL l).symm
  | x :: xs, l => by
    rw [List.foldl_cons, fold_putF xs, List.map_cons, List.foldl_cons]
    congr 2
    unfold putF
    rw [List.map_map]
    conv => rhs; rw [← List.map_id (putL (l.map toL) (toL x))]
    apply List.map_congr_left
    intro y _
    exact toL_ofL y
theorem once_fold (xs : List ByteArray) : onceF xs = xs.foldl putF [] := by
  rw [fold_putF]
  unfold onceF onceL
  rw [once_put]
  rfl
theorem fold_len : ∀ (xs l : List ByteArray), (xs.foldl putF l).length ≤ l.length + xs.length
  | [], l => by simp
  | x :: xs, l => by
    rw [List.foldl_cons, List.length_cons]
    have := fold_len xs (putF l x)
    have := putF_len l x
    omega

theorem put_any (base : Nat) (v : Value) (l : List ByteArray) (a : ByteArray) (w0 w : World) (hbase : w0.heap.size = base) (hb : Below base w0 w) (h : Kd.string.R 9 w base (fun _ => True) v l) (hl : l.length ≤ 100000) :
    Calls Try.prog 32 #[v, .string a] w fun e w' => ∃ v' : Value, e = .returned v' ∧ Kd.string.R 9 w' base (fun _ => True) v' (putF l a) ∧ Below base w0 w' := by
  subst hbase
  refine (doorkeeperref4_put.calls 100002 (fun _ => True) v l a (putF l a) w0 w hb h (put_eq l a hl)).mono ?_
  rintro e w' ⟨v', rfl, h1, h2, h3⟩
  exact ⟨v', rfl, Kd.R_mono h1 (fun _ _ => trivial), h2⟩
end Go.Proofs.Ytbmjdkbakeckoaa
namespace Go.Proofs.Ytbmjdkbakeckoaa
open Go Go.RowKit Go.Proofs.YtbmjdkbakeckoaaW.PrintWords Go.Proofs.YtbmjdkbakeckoaaW.PrintLast Go.Proofs.YtbmjdkbakeckoaaW.PrintMore Go.Proofs.Ytbmjdkbakeckoaa.PRefsAll
set_option maxRecDepth 100000
set_option linter.unusedSimpArgs false
set_option linter.unusedVariables false
set_option maxHeartbeats 4000000

theorem of4_any (l : List S47) (A : Option Addr) (c : Nat) (w : World) (hf : Fits l) (hl : Kd.C k47 w A l.length l) :
    Calls Try.prog 13 #[.slice A l.length c] w fun e w' => (∃ A c, e = .returned (.slice A (ofF l).length c) ∧ (ofF l).length ≤ c ∧ Kd.string.C w' A (ofF l).length (ofF l)) ∧ Below w.heap.size w w' := by
  have HT := Lib.hid (tree1_is l A c w hf hl)
  have HL := Lib.hid hl
  have HF := Lib.hid hf
  have hlen := hf.1
  have HFL := Lib.hid (fun i => Nat.le_trans (fold_len ((l.take i).flatMap refsOf) []) (Nat.add_le_add_left (flat_len (l.take i) (fun x hx => (hf.2 x (List.mem_of_mem_take hx)).2.1)) _))
  clear hl hf
  obtain ⟨τ, hτ⟩ : ∃ τ, treeP l = τ := ⟨_, rfl⟩
  have HO := Lib.hid (show ofF l = if τ then (l.flatMap refsOf).foldl putF [] else [] by unfold ofF; rw [hτ, once_fold])
  rw [hτ] at HT
  clear hτ
  obtain ⟨base, hbase⟩ : ∃ b, w.heap.size = b := ⟨_, rfl⟩
  have HBase := Lib.hid hbase
  rw [hbase] at HT ⊢
  go_enter Try.func13, Try.ntmps13
  go_wp2_with fail
  refine HT.out.mono ?_
  rintro e w1 ⟨rfl, hb1⟩
  clear HT
  cases τ
  · go_wp2_with fail
    go_ret
    rw [HO.out]
    exact ⟨⟨none, 0, rfl, Nat.le_refl _, Kd.C_nil _ _⟩, hb1⟩
  · have HB1 := Lib.hid hb1
    clear hb1 hbase
    go_wp2_with fail
    go_loopw [3, 4] (fun sv iv wr => ∃ i : Nat, i ≤ l.length ∧ iv = .int .i64 i ∧ Kd.string.R 9 wr base (fun _ => True) sv (((l.take i).flatMap refsOf).foldl putF []) ∧ Below base w wr) (fun _ iv _ => l.length - (intOf iv).toNat)
    case atStart => exact ⟨0, by omega, rfl, by simpa using Kd.R_nil Kd.string 9 w1 base (fun _ => True), HB1.out⟩
    case round =>
      obtain ⟨i, hi, rfl, hO, hb⟩ := hrel
      have HOi := Lib.hid hO
      have HBi := Lib.hid hb
      clear hO hb
      by_cases hlt : i < l.length
      · obtain ⟨β, o, A3, c3, A4, c4, rfl, hβ, q0, q1, q2, q3, q4, h5, h6, h7, h8⟩ := node_cells HL.out i hlt
        rw [HBase.out] at hβ
        have Q2 := Lib.hid q2
        have Q3 := Lib.hid q3
        have q0 := (HBi.out.cell (p := ⟨β, o + i * 5, none⟩) hβ).trans q0
        have q2 := (HBi.out.cell (p := ⟨β, o + i * 5 + 2, none⟩) hβ).trans q2
        have hrd := rd47 l i hlt
        have hmem := List.mem_of_getElem? hrd
        have hfx := (HF.out.2 _ hmem).2.1
        have HN := Lib.hid (show ((l.take (i + 1)).flatMap refsOf).foldl putF [] = (refsOf (rd_T47 l i)).foldl putF (((l.take i).flatMap refsOf).foldl putF []) by
          rw [List.take_add_one, hrd]; simp)
        have hll := HFL.out i
        rw [List.length_take] at hll
        obtain ⟨cur, hcur⟩ : ∃ cur, ((l.take i).flatMap refsOf).foldl putF [] = cur := ⟨_, rfl⟩
        rw [hcur] at HOi HN hll
        have hcl : cur.length ≤ 10100 := by simp only [List.length_nil] at hll; omega
        obtain ⟨x, hx⟩ : ∃ x, rd_T47 l i = x := ⟨_, rfl⟩
        rw [hx] at q0 q2 HN Q2 Q3 h6 hfx
        obtain ⟨k, n, t, ps, ks⟩ := x
        dsimp only at q0 q2 Q2 Q3 h6 hfx
        have HP := Lib.hid h6
        clear q1 q3 q4 hrd hmem h5 h6 h7 h8 hll hcur hx
        rcases (by by_cases h : k = 4; exact .inl h; exact .inr h : k = 4 ∨ k ≠ 4) with hk | hk
        rotate_left
        · have hn : refsOf ⟨k, n, t, ps, ks⟩ = fromP ps := by unfold refsOf fromP; simp [hk]
          rw [hn] at HN
          have hk4 : (k == 4) = false := by simp [hk]
          clear hk hn
          obtain ⟨cur1, hc1⟩ : ∃ cur1, cur = cur1 := ⟨_, rfl⟩
          rw [hc1] at HN HOi
          have hcl1 : cur1.length ≤ 10101 := by rw [← hc1]; omega
          have HO1 := HOi
          have HB1x := HBi
          clear hc1 hcl
          go_wp2_with fail
          go_loopw [3, 5] (fun sv jv wr2 => ∃ j : Nat, j ≤ ps.length ∧ jv = .int .i64 j ∧ Kd.string.R 9 wr2 base (fun _ => True) sv ((fromP (ps.take j)).foldl putF cur1) ∧ Below base w wr2) (fun _ jv _ => ps.length - (intOf jv).toNat)
          case atStart => exact ⟨0, by omega, rfl, by simpa [fromP] using HO1.out, HB1x.out⟩
          case round =>
            obtain ⟨j, hj, rfl, hO2, hb2⟩ := hrel
            have HOj := Lib.hid hO2
            have HBj := Lib.hid hb2
            clear hO2 hb2
            have q3 := (HBj.out.cell (p := ⟨β, o + i * 5 + 3, none⟩) hβ).trans Q3.out
            by_cases hjl : j < ps.length
            · obtain ⟨b4, o4, rfl, hb4, p0, p1⟩ := part_cells HP.out j hjl
              rw [HBase.out] at hb4
              have p0 := (HBj.out.cell (p := ⟨b4, o4 + j * 2, none⟩) hb4).trans p0
              have p1 := (HBj.out.cell (p := ⟨b4, o4 + j * 2 + 1, none⟩) hb4).trans p1
              have HNj := Lib.hid (fromP_succ ps j hjl)
              obtain ⟨pt, hpt⟩ : ∃ pt, rd_T51 ps (j : Int) = pt := ⟨_, rfl⟩
              rw [hpt] at p0 p1 HNj
              clear hpt
              obtain ⟨pb, px⟩ := pt
              dsimp only at p0 p1 HNj
              have hfl2 := fromP_len (ps.take j)
              rw [List.length_take] at hfl2
              have hfl3 := fold_len (fromP (ps.take j)) cur1
              cases pb
              · go_wp2_with fail
                go_roundw
                case rel => exact ⟨j + 1, by omega, by go_num, by rw [HNj.out]; simpa using HOj.out, HBj.out⟩
                case measure => simp [intOf]; omega
              · have hput := fun v' (hv : Kd.string.R 9 wr base (fun _ => True) v' ((fromP (ps.take j)).foldl putF cur1)) => put_any base v' _ px w wr HBase.out HBj.out hv (by omega)
                have HPut := Lib.hid hput
                clear hput hfl2 hfl3
                go_wp2_with fail
                refine (HPut.out _ HOj.out).mono ?_
                rintro e W3 ⟨v', rfl, hO3, hB3⟩
                have HO3 := Lib.hid hO3
                have HB3 := Lib.hid hB3
                clear hO3 hB3
                go_wp2_with fail
                go_roundw
                case rel => exact ⟨j + 1, by omega, by go_num, by rw [HNj.out]; simpa using HO3.out, HB3.out⟩
                case measure => simp [intOf]; omega
            · obtain rfl : j = ps.length := by omega
              rw [List.take_length] at HOj
              go_wp2_with fail
              go_roundw
              case rel => exact ⟨i + 1, by omega, by go_num, by rw [HN.out]; exact HOj.out, HBj.out⟩
              case measure => simp [intOf]; omega
        · subst hk
          have hn : refsOf ⟨4, n, t, ps, ks⟩ = t :: fromP ps := rfl
          rw [hn, List.foldl_cons] at HN
          clear hn
          have hput := fun v' (hv : Kd.string.R 9 wr base (fun _ => True) v' cur) => put_any base v' cur t w wr HBase.out HBi.out hv (by omega)
          have HPut := Lib.hid hput
          have hpl := putF_len cur t
          clear hput
          go_wp2_with fail
          refine (HPut.out _ HOi.out).mono ?_
          rintro e W2 ⟨v', rfl, hO2, hB2⟩
          have HO1 := Lib.hid hO2
          have HB1x := Lib.hid hB2
          obtain ⟨cur1, hc1⟩ : ∃ cur1, putF cur t = cur1 := ⟨_, rfl⟩
          rw [hc1] at HN HO1 hpl
          have hcl1 : cur1.length ≤ 10101 := by omega
          clear hc1 hcl hO2 hB2 HPut hpl
          go_wp2_with fail
          go_loopw [3, 5] (fun sv jv wr2 => ∃ j : Nat, j ≤ ps.length ∧ jv = .int .i64 j ∧ Kd.string.R 9 wr2 base (fun _ => True) sv ((fromP (ps.take j)).foldl putF cur1) ∧ Below base w wr2) (fun _ jv _ => ps.length - (intOf jv).toNat)
          case atStart => exact ⟨0, by omega, rfl, by simpa [fromP] using HO1.out, HB1x.out⟩
          case round =>
            obtain ⟨j, hj, rfl, hO2, hb2⟩ := hrel
            have HOj := Lib.hid hO2
            have HBj := Lib.hid hb2
            clear hO2 hb2
            have q3 := (HBj.out.cell (p := ⟨β, o + i * 5 + 3, none⟩) hβ).trans Q3.out
            by_cases hjl : j < ps.length
            · obtain ⟨b4, o4, rfl, hb4, p0, p1⟩ := part_cells HP.out j hjl
              rw [HBase.out] at hb4
              have p0 := (HBj.out.cell (p := ⟨b4, o4 + j * 2, none⟩) hb4).trans p0
              have p1 := (HBj.out.cell (p := ⟨b4, o4 + j * 2 + 1, none⟩) hb4).trans p1
              have HNj := Lib.hid (fromP_succ ps j hjl)
              obtain ⟨pt, hpt⟩ : ∃ pt, rd_T51 ps (j : Int) = pt := ⟨_, rfl⟩
              rw [hpt] at p0 p1 HNj
              clear hpt
              obtain ⟨pb, px⟩ := pt
              dsimp only at p0 p1 HNj
              have hfl2 := fromP_len (ps.take j)
              rw [List.length_take] at hfl2
              have hfl3 := fold_len (fromP (ps.take j)) cur1
              cases pb
              · go_wp2_with fail
                go_roundw
                case rel => exact ⟨j + 1, by omega, by go_num, by rw [HNj.out]; simpa using HOj.out, HBj.out⟩
                case measure => simp [intOf]; omega
              · have hput := fun v' (hv : Kd.string.R 9 wr base (fun _ => True) v' ((fromP (ps.take j)).foldl putF cur1)) => put_any base v' _ px w wr HBase.out HBj.out hv (by omega)
                have HPut := Lib.hid hput
                clear hput hfl2 hfl3
                go_wp2_with fail
                refine (HPut.out _ HOj.out).mono ?_
                rintro e W3 ⟨v', rfl, hO3, hB3⟩
                have HO3 := Lib.hid hO3
                have HB3 := Lib.hid hB3
                clear hO3 hB3
                go_wp2_with fail
                go_roundw
                case rel => exact ⟨j + 1, by omega, by go_num, by rw [HNj.out]; simpa using HO3.out, HB3.out⟩
                case measure => simp [intOf]; omega
            · obtain rfl : j = ps.length := by omega
              rw [List.take_length] at HOj
              go_wp2_with fail
              go_roundw
              case rel => exact ⟨i + 1, by omega, by go_num, by rw [HN.out]; exact HOj.out, HBj.out⟩
              case measure => simp [intOf]; omega
      · obtain rfl : i = l.length := by omega
        rw [List.take_length] at HOi
        obtain ⟨A', c', rfl, hle, hC⟩ := Kd.R_reads HOi.out
        have HC := Lib.hid hC
        clear hC HOi
        have hof : (l.flatMap refsOf).foldl putF [] = ofF l := by rw [HO.out]; rfl
        rw [hof] at HC hle ⊢
        have HLe := Lib.hid hle
        clear hle hof
        go_wp2_with fail
        go_ret
        exact ⟨⟨A', c', rfl, HLe.out, HC.out⟩, HBi.out⟩
end Go.Proofs.Ytbmjdkbakeckoaa
