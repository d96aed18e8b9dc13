/- Behind a fall a side has a beginning of what was added since: the walk of the statement. -/
import Derived.Test.YtallocndghjoeaaTo
import Derived.OpenShut
namespace Go.Proofs.Ytallocndghjoeaa
open Go.RowKit Go.Proofs.YtallocndghjoeaaW.PrintWords
set_option linter.unusedVariables false

theorem tornL_mores (l : List Chg) (k : Nat) (torn : Int) : mores (tornL l k torn) ≤ mores l := by
  unfold tornL
  have h0 := mores_take_le l k
  split
  · exact h0
  · rename_i c rest hd
    split
    · exact h0
    · have h1 : mores l = mores (l.take k) + mores (l.drop k) := by rw [← mores_app, List.take_append_drop]
      have e : mores (c :: rest) = c.more.size + mores rest := rfl
      have e2 : mores [cutMore c (partF torn c.more.size).toNat] = (c.more.extract 0 (partF torn c.more.size).toNat).size + 0 := rfl
      have e3 := extract_size c.more (partF torn c.more.size).toNat
      rw [mores_app, h1, hd, e, e2]
      omega

theorem fall_ok (st : TapeSt) (room crash keep torn : Int) (h : st.Ok) : (fallF st room crash keep torn).Ok := by
  refine ⟨(by intro c hc; cases hc), ?_, Nat.zero_le _, Int.le_refl 0, by show (0 : Int) ≤ _; decide⟩
  have h1 := nowF_size (tornL st.loose (partF keep st.loose.length).toNat torn) (st.s0, st.s1)
  have h2 := h.size
  have h3 : mores (tornL st.loose (partF keep st.loose.length).toNat torn) ≤ mores st.loose := tornL_mores _ _ _
  show (nowF (st.s0, st.s1) (tornL st.loose (partF keep st.loose.length).toNat torn)).1.size + (nowF (st.s0, st.s1) (tornL st.loose (partF keep st.loose.length).toNat torn)).2.size + mores [] ≤ _
  rw [show mores [] = 0 from rfl]
  simp only at h1
  omega

def mxz (y : Int) : Int := if 0 < y then y else 0
theorem mxz_nonneg (y : Int) : 0 ≤ mxz y := by unfold mxz; split <;> omega
theorem mxz_part (y n : Int) : mxz y % (n + 1) = partF y n := by
  unfold mxz partF
  by_cases h : y < 0
  · rw [if_neg (by omega), if_pos h]; simp
  · rw [if_neg h]
    by_cases h0 : 0 < y
    · rw [if_pos h0]
    · rw [if_neg h0, show y = 0 by omega]
theorem mx_zero (k k' : IntKind) (y : Int) : Builtin.max2 (.int k 0) (.int k' y) = pure (.int k (mxz y)) := by simp only [Builtin.max2, gt_iff_lt, mxz]
theorem mx_two (ats : Array TypeId) (ty : TypeId) (a b : Value) : Builtin.max_ ats ty #[a, b] = (Builtin.max2 a b >>= fun s => pure s) := by simp only [Builtin.max_, List.foldlM_cons, List.foldlM_nil]
attribute [local go_sem] mx_zero mx_two

set_option maxRecDepth 100000 in
set_option maxHeartbeats 1600000 in
theorem keeps_long (first : ByteArray) (v : Value) (keep torn : Int) (other : Bool) (w : World) (hf : 100 < first.size) :
    Calls Try.prog 5 #[.string first, v, .int .i64 keep, .int .i64 torn, .bool other] w fun e w' => e = .returned (.bool true) ∧ Below w.heap.size w w' := by
  have hf' : (100 : Int) < first.size := by omega
  go_enter Try.func5, Try.ntmps5
  go_wp2_with fail
  refine (awake_any _).mono ?_
  rintro e w1 ⟨rfl, hb⟩
  go_wp2
  go_ret
  exact ⟨rfl, hb⟩

set_option maxRecDepth 100000 in
set_option maxHeartbeats 1600000 in
theorem keeps_many (first : ByteArray) (A : Option Addr) (n c : Nat) (keep torn : Int) (other : Bool) (w : World) (hf : first.size ≤ 100) (hn : 20 < n) :
    Calls Try.prog 5 #[.string first, .slice A n c, .int .i64 keep, .int .i64 torn, .bool other] w fun e w' => e = .returned (.bool true) ∧ Below w.heap.size w w' := by
  have hf' : ¬ (100 : Int) < first.size := by omega
  go_enter Try.func5, Try.ntmps5
  go_wp2_with fail
  refine (awake_any _).mono ?_
  rintro e w1 ⟨rfl, hb⟩
  go_wp2
  go_ret
  exact ⟨rfl, hb⟩

set_option maxRecDepth 100000 in
set_option maxHeartbeats 3200000 in
theorem keeps_some (first : ByteArray) (lb lo c : Nat) (l : List ByteArray) (keep torn : Int) (other : Bool) (w : World) (hf : first.size ≤ 100) (hl : l.length ≤ 20)
    (hlb : lb < w.heap.size) (hcell : ∀ k (h : k < l.length), w.cell? ⟨lb, lo + k, none⟩ = some (.string l[k])) :
    Calls Try.prog 5 #[.string first, .slice (some ⟨lb, lo, none⟩) l.length c, .int .i64 keep, .int .i64 torn, .bool other] w fun e w' => e = .returned (.bool true) ∧ Below w.heap.size w w' := by
  have hf' : ¬ (100 : Int) < first.size := by omega
  have HC := Lib.hid hcell
  clear hcell
  go_enter Try.func5, Try.ntmps5
  go_wp2_with fail
  refine (new_any 1048576 0 0 0 _).mono ?_
  rintro e w1 ⟨b, rfl, hT1, hb1⟩
  go_wp2_with fail
  refine (add1_any w.heap.size b none _ 0 first _ hT1 ((good_new 1048576 0 0 0 (by decide)).ok (by decide) (by decide)) hb1.size ?_).mono ?_
  · show (⟨#[]⟩ : ByteArray).size + (⟨#[]⟩ : ByteArray).size + mores [] + first.size ≤ _
    rw [show (⟨#[]⟩ : ByteArray).size = 0 from rfl, show mores [] = 0 from rfl]; omega
  rintro e w2 ⟨rfl, row2, hT2, hq⟩
  rw [k_add0 first hf] at hT2 ⊢
  have hb2 := hb1.trans hq
  clear hT1 hb1 hq
  go_wp2_with fail
  refine (seal_any w.heap.size b row2 _ _ hT2 ⟨?_, ?_, ?_, by show (0 : Int) ≤ 1; decide, by show (1 : Int) ≤ _; decide⟩).mono ?_
  · intro x hx
    have : x = ad first := by simpa using hx
    subst this
    exact ⟨Int.le_refl 0, by show (0 : Int) < 2; decide⟩
  · show (⟨#[]⟩ : ByteArray).size + (⟨#[]⟩ : ByteArray).size + mores [ad first] ≤ _
    rw [show (⟨#[]⟩ : ByteArray).size = 0 from rfl, show mores [ad first] = first.size by simp [mores, ad]]; omega
  · show [ad first].length ≤ _
    simp
  rintro e w3 ⟨rfl, row3, hT3, _, hq⟩
  rw [k_seal first l] at hT3 ⊢
  have hb3 := hb2.trans (hq.belowT hT2 hb2.size)
  clear hT2 hb2 hq
  go_wp2_with fail
  go_loopw [14] (fun iv wr => ∃ (i : Nat) (row : Option Nat), i ≤ l.length ∧ iv = .int .i64 i ∧ (∀ j (h : j < l.length), j < i → l[j].size ≤ 100) ∧ TapeAt wr w.heap.size b row (kst first l i) ∧ Below w.heap.size w wr) (fun iv _ => l.length - (intOf iv).toNat)
  case atStart => exact ⟨0, row3, by omega, rfl, (fun j _ hj => absurd hj (by omega)), hT3, hb3⟩
  case round =>
    obtain ⟨i, row, hi, rfl, hp0, hT, hb⟩ := hrel
    have HP := Lib.hid hp0
    clear hp0 hT3 hb3
    by_cases hlt : i < l.length
    · have hcl : wr.cell? ⟨lb, lo + i, none⟩ = some (.string l[i]) := (hb.cell (p := ⟨lb, lo + i, none⟩) hlb).trans (HC.out i hlt)
      have hadd := Lib.hid (fun hp => k_add first l i hf hl hlt hp)
      obtain ⟨x, hx⟩ : ∃ x, l[i] = x := ⟨_, rfl⟩
      rw [hx] at hcl
      have HX := Lib.hid hx
      clear hx
      by_cases hxs : x.size ≤ 100
      · have hx1 : ¬ (100 : Int) < x.size := by omega
        have hp1 := Lib.hid (show ∀ j (h : j < l.length), j < i + 1 → l[j].size ≤ 100 from fun j h hj => by
          rcases Nat.lt_or_ge j i with h1 | h1
          · exact HP.out j h h1
          · have : j = i := by omega
            subst this; rw [HX.out]; exact hxs)
        go_wp2_with fail
        refine (add1_any w.heap.size b row (kst first l i) 0 x _ hT (kst_ok first l i hf hl (by omega) HP.out) hb.size ?_).mono ?_
        · have h1 := kst_size l i hl HP.out
          show first.size + (⟨#[]⟩ : ByteArray).size + mores ((l.take i).map ad) + x.size ≤ _
          rw [mores_ads, show (⟨#[]⟩ : ByteArray).size = 0 from rfl]; omega
        rintro e w5 ⟨rfl, row5, hT5, hq⟩
        have e5 := hadd.out hp1.out
        rw [HX.out] at e5
        rw [e5] at hT5 ⊢
        have hb5 := hb.trans hq
        clear hT hq hcl e5
        go_wp2_with (first | (go_at_call 12; refine (num_any _ _).mono ?_; rintro e w' ⟨rfl, rfl⟩))
        go_roundw
        case rel => exact ⟨i + 1, row5, by omega, by go_num, hp1.out, hT5, hb5⟩
        case measure => simp [intOf]; omega
      · have hx1 : (100 : Int) < x.size := by omega
        go_wp2_with fail
        refine (awake_any _).mono ?_
        rintro e w5 ⟨rfl, hb5⟩
        have hbb := hb.trans (hb5.mono hb.size)
        clear hb5
        go_wp2
        go_ret
        exact ⟨rfl, hbb⟩
    · obtain rfl : i = l.length := by omega
      clear hlt
      cases other with
      | false =>
        have hT5 := hT
        have hb5 := hb
        clear hT hb
        go_wp2_with fail
        refine (loose_any w.heap.size b _ _ _ hT5).mono ?_
        rintro e w' ⟨rfl, rfl⟩
        rw [show (kst first l l.length : TapeSt).loose.length = l.length from by simp [kst]]
        go_wp2_with fail
        refine (fall_any w.heap.size b _ _ 0 0 keep torn _ hT5 (kst_ok first l l.length hf hl (by omega) HP.out)).mono ?_
        rintro e w6 ⟨rfl, row6, hT6, _, hq⟩
        have hb6 := hb5.trans (hq.belowT hT5 hb5.size)
        clear hT5 hb5 hq
        have hmz := mxz_nonneg keep
        have hkr := partF_range keep l.length
        obtain ⟨k, hk⟩ : ∃ k : Nat, partF keep (l.length : Nat) = k := ⟨(partF keep (l.length : Nat)).toNat, by omega⟩
        have hkn : k ≤ l.length := by omega
        have hmk := Lib.hid (show mxz keep % ((l.length : Int) + 1) = (k : Int) by rw [mxz_part, hk])
        have hs0 : (fallF (kst first l l.length) 0 0 keep torn).s0 = wantC first l k torn := by
          show (nowF (first, ⟨#[]⟩) (tornL (kst first l l.length : TapeSt).loose (partF keep (kst first l l.length : TapeSt).loose.length).toNat torn)).1 = _
          rw [show (kst first l l.length : TapeSt).loose.length = l.length from by simp [kst], hk]
          exact (by rw [show (kst first l l.length).loose = l.map ad by simp [kst]]; exact fall_want first l k torn hkn)
        have hok6 : (fallF (kst first l l.length) 0 0 keep torn).Ok := fall_ok _ _ _ _ _ (kst_ok first l l.length hf hl (by omega) HP.out)
        have hsd : sideF (fallF (kst first l l.length) 0 0 keep torn) 0 = (wantC first l k torn, 0) := by
          rw [← hs0]; rfl
        have HS := Lib.hid hsd
        have HK := Lib.hid hk
        clear hs0 hsd hk hkr
        go_wp2_with fail
        rw [hmk.out]
        go_loopw [17, 18] (fun wv iv wr' => ∃ (i : Nat), i ≤ l.length ∧ iv = .int .i64 i ∧ ((i ≤ k ∧ wv = .string ((l.take i).foldl (· ++ ·) first)) ∨ (i = k + 1 ∧ wv = .string (wantC first l k torn))) ∧ TapeAt wr' w.heap.size b row6 (fallF (kst first l l.length) 0 0 keep torn) ∧ Below w.heap.size w wr') (fun _ iv _ => l.length - (intOf iv).toNat)
        case atStart => exact ⟨0, by omega, rfl, .inl ⟨by omega, rfl⟩, hT6, hb6⟩
        case round =>
          obtain ⟨i, hi2, rfl, hdis, hT7, hb7⟩ := hrel
          clear hT6 hb6
          by_cases hgo : i < l.length ∧ i ≤ k
          · obtain ⟨hil, hik⟩ := hgo
            have hcl : wr.cell? ⟨lb, lo + i, none⟩ = some (.string l[i]) := (hb7.cell (p := ⟨lb, lo + i, none⟩) hlb).trans (HC.out i hil)
            rcases hdis with ⟨_, rfl⟩ | ⟨h, _⟩
            · have hsz : ((l.take i).foldl (· ++ ·) first).size ≤ 3000 := by
                have h1 := kst_size l i hl (fun j h hj => HP.out j h h)
                have h2 := foldl_size (l.take i) first
                omega
              have hxs := HP.out i hil hil
              have hsn : Hid ((l.take (i + 1)).foldl (· ++ ·) first = (l.take i).foldl (· ++ ·) first ++ l[i]) := by
                rw [List.take_succ_eq_append_getElem hil, List.foldl_append]; rfl
              have hwc : Hid (i = k → wantC first l k torn = (l.take i).foldl (· ++ ·) first ++ l[i].extract 0 (partF torn l[i].size).toNat) := by
                intro e; subst e; unfold wantC; rw [dif_pos hil]
              generalize (l.take i).foldl (· ++ ·) first = acc at *
              generalize l[i] = x at *
              by_cases hik2 : i < k
              · go_wp2
                go_roundw
                case rel => exact ⟨i + 1, by omega, by go_num, .inl ⟨by omega, by rw [hsn.out]⟩, hT7, hb7⟩
                case measure => simp [intOf]; omega
              · have hik3 : i = k := by omega
                have hpr := partF_range torn x.size
                obtain ⟨t, ht⟩ : ∃ t : Nat, partF torn x.size = t := ⟨(partF torn x.size).toNat, by omega⟩
                have htx : t ≤ x.size := by omega
                have hmt : mxz torn % ((x.size : Int) + 1) = (t : Int) := by rw [mxz_part, ht]
                have hmz2 := mxz_nonneg torn
                have hwd := Lib.hid (show wantC first l k torn = acc ++ x.extract 0 t by rw [hwc.out hik3, ht]; rfl)
                have hbl := hb7.size
                clear hpr ht hik3 hwc hsn
                have hlw : lb < wr.heap.size := by omega
                have htx2 : (t : Int) ≤ x.size := by omega
                go_wp2_with fail
                refine region_lay (by kernel_rfl) (by kernel_rfl) ?_
                repeat (go_big_quiet_step (fail))
                refine wpQuiet_nil ?_
                rintro _ ⟨zq, rfl⟩
                have hb8 := wr.lay_below zq
                have hT8 := hT7.below hb8
                have hb9 := hb7.trans (hb8.mono hb7.size)
                generalize wr.lay zq = w8 at *
                go_wp2
                go_roundw
                case rel => exact ⟨i + 1, by omega, by go_num, .inr ⟨by omega, by rw [hwd.out]⟩, hT8, hb9⟩
                case measure => simp [intOf]; omega
            · omega
          · have hwv : u17 = .string (wantC first l k torn) := by
              rcases hdis with ⟨h1, rfl⟩ | ⟨h1, rfl⟩
              · have : i = l.length := by omega
                subst this
                unfold wantC
                rw [dif_neg (by omega), List.take_length]
              · rfl
            clear hdis
            subst hwv
            generalize wantC first l k torn = want at *
            by_cases hil : i < l.length
            · have hik : ¬ i ≤ k := by omega
              go_wp2_with fail
              refine (side_any w.heap.size b row6 _ 0 _ hT7 hok6).mono ?_
              rintro e w9 ⟨rfl, hb9⟩
              rw [HS.out]
              have hT9 := hT7.below hb9
              have hbb := hb7.trans (hb9.mono hb7.size)
              clear hT7 hb9
              go_wp2_with (first | (go_at_call 12; refine (num_any _ _).mono ?_; rintro e w' ⟨rfl, rfl⟩))
              refine (loose_any w.heap.size b row6 _ _ hT9).mono ?_
              rintro e w' ⟨rfl, rfl⟩
              rw [show (fallF (kst first l l.length) 0 0 keep torn).loose.length = 0 from rfl]
              go_wp2_with fail
              refine (awake_any _).mono ?_
              rintro e w10 ⟨rfl, hb10⟩
              have hbbb := hbb.trans (hb10.mono hbb.size)
              go_wp2
              go_ret
              exact ⟨rfl, hbbb⟩
            · go_wp2_with fail
              refine (side_any w.heap.size b row6 _ 0 _ hT7 hok6).mono ?_
              rintro e w9 ⟨rfl, hb9⟩
              rw [HS.out]
              have hT9 := hT7.below hb9
              have hbb := hb7.trans (hb9.mono hb7.size)
              clear hT7 hb9
              go_wp2_with (first | (go_at_call 12; refine (num_any _ _).mono ?_; rintro e w' ⟨rfl, rfl⟩))
              refine (loose_any w.heap.size b row6 _ _ hT9).mono ?_
              rintro e w' ⟨rfl, rfl⟩
              rw [show (fallF (kst first l l.length) 0 0 keep torn).loose.length = 0 from rfl]
              go_wp2_with fail
              refine (awake_any _).mono ?_
              rintro e w10 ⟨rfl, hb10⟩
              have hbbb := hbb.trans (hb10.mono hbb.size)
              go_wp2
              go_ret
              exact ⟨rfl, hbbb⟩
      | true =>
        go_wp2_with fail
        refine (wipe_any w.heap.size b row (kst first l l.length) 1 _ hT (kst_ok first l l.length hf hl (by omega) HP.out) hb.size).mono ?_
        rintro e w5 ⟨rfl, row5, hT5, _, hq⟩
        rw [k_wipe first l] at hT5 ⊢
        have hb5 := hb.trans (hq.belowT hT hb.size)
        clear hT hb hq
        go_wp2_with fail
        refine (loose_any w.heap.size b _ _ _ hT5).mono ?_
        rintro e w' ⟨rfl, rfl⟩
        rw [show (wst first l : TapeSt).loose.length = (l.length + 1) from by simp [wst]]
        go_wp2_with fail
        refine (fall_any w.heap.size b _ _ 0 0 keep torn _ hT5 (wst_ok first l hf hl HP.out)).mono ?_
        rintro e w6 ⟨rfl, row6, hT6, _, hq⟩
        have hb6 := hb5.trans (hq.belowT hT5 hb5.size)
        clear hT5 hb5 hq
        have hmz := mxz_nonneg keep
        have hkr := partF_range keep (l.length + 1)
        obtain ⟨k, hk⟩ : ∃ k : Nat, partF keep ((l.length + 1) : Nat) = k := ⟨(partF keep ((l.length + 1) : Nat)).toNat, by omega⟩
        have hkn : k ≤ (l.length + 1) := by omega
        have hmk := Lib.hid (show mxz keep % ((l.length : Int) + 1 + 1) = (k : Int) by rw [show ((l.length : Int) + 1) = ((l.length + 1 : Nat) : Int) by omega, mxz_part, hk])
        have hs0 : (fallF (wst first l) 0 0 keep torn).s0 = wantC first l k torn := by
          show (nowF (first, ⟨#[]⟩) (tornL (wst first l : TapeSt).loose (partF keep (wst first l : TapeSt).loose.length).toNat torn)).1 = _
          rw [show (wst first l : TapeSt).loose.length = (l.length + 1) from by simp [wst], hk]
          exact (by rw [show (wst first l).loose = l.map ad ++ [⟨1, true, ⟨#[]⟩⟩] from rfl]; exact fall_want_w first l k torn hkn)
        have hok6 : (fallF (wst first l) 0 0 keep torn).Ok := fall_ok _ _ _ _ _ (wst_ok first l hf hl HP.out)
        have hsd : sideF (fallF (wst first l) 0 0 keep torn) 0 = (wantC first l k torn, 0) := by
          rw [← hs0]; rfl
        have HS := Lib.hid hsd
        have HK := Lib.hid hk
        clear hs0 hsd hk hkr
        go_wp2_with fail
        rw [hmk.out]
        go_loopw [17, 18] (fun wv iv wr' => ∃ (i : Nat), i ≤ l.length ∧ iv = .int .i64 i ∧ ((i ≤ k ∧ wv = .string ((l.take i).foldl (· ++ ·) first)) ∨ (i = k + 1 ∧ wv = .string (wantC first l k torn))) ∧ TapeAt wr' w.heap.size b row6 (fallF (wst first l) 0 0 keep torn) ∧ Below w.heap.size w wr') (fun _ iv _ => l.length - (intOf iv).toNat)
        case atStart => exact ⟨0, by omega, rfl, .inl ⟨by omega, rfl⟩, hT6, hb6⟩
        case round =>
          obtain ⟨i, hi2, rfl, hdis, hT7, hb7⟩ := hrel
          clear hT6 hb6
          by_cases hgo : i < l.length ∧ i ≤ k
          · obtain ⟨hil, hik⟩ := hgo
            have hcl : wr.cell? ⟨lb, lo + i, none⟩ = some (.string l[i]) := (hb7.cell (p := ⟨lb, lo + i, none⟩) hlb).trans (HC.out i hil)
            rcases hdis with ⟨_, rfl⟩ | ⟨h, _⟩
            · have hsz : ((l.take i).foldl (· ++ ·) first).size ≤ 3000 := by
                have h1 := kst_size l i hl (fun j h hj => HP.out j h h)
                have h2 := foldl_size (l.take i) first
                omega
              have hxs := HP.out i hil hil
              have hsn : Hid ((l.take (i + 1)).foldl (· ++ ·) first = (l.take i).foldl (· ++ ·) first ++ l[i]) := by
                rw [List.take_succ_eq_append_getElem hil, List.foldl_append]; rfl
              have hwc : Hid (i = k → wantC first l k torn = (l.take i).foldl (· ++ ·) first ++ l[i].extract 0 (partF torn l[i].size).toNat) := by
                intro e; subst e; unfold wantC; rw [dif_pos hil]
              generalize (l.take i).foldl (· ++ ·) first = acc at *
              generalize l[i] = x at *
              by_cases hik2 : i < k
              · go_wp2
                go_roundw
                case rel => exact ⟨i + 1, by omega, by go_num, .inl ⟨by omega, by rw [hsn.out]⟩, hT7, hb7⟩
                case measure => simp [intOf]; omega
              · have hik3 : i = k := by omega
                have hpr := partF_range torn x.size
                obtain ⟨t, ht⟩ : ∃ t : Nat, partF torn x.size = t := ⟨(partF torn x.size).toNat, by omega⟩
                have htx : t ≤ x.size := by omega
                have hmt : mxz torn % ((x.size : Int) + 1) = (t : Int) := by rw [mxz_part, ht]
                have hmz2 := mxz_nonneg torn
                have hwd := Lib.hid (show wantC first l k torn = acc ++ x.extract 0 t by rw [hwc.out hik3, ht]; rfl)
                have hbl := hb7.size
                clear hpr ht hik3 hwc hsn
                have hlw : lb < wr.heap.size := by omega
                have htx2 : (t : Int) ≤ x.size := by omega
                go_wp2_with fail
                refine region_lay (by kernel_rfl) (by kernel_rfl) ?_
                repeat (go_big_quiet_step (fail))
                refine wpQuiet_nil ?_
                rintro _ ⟨zq, rfl⟩
                have hb8 := wr.lay_below zq
                have hT8 := hT7.below hb8
                have hb9 := hb7.trans (hb8.mono hb7.size)
                generalize wr.lay zq = w8 at *
                go_wp2
                go_roundw
                case rel => exact ⟨i + 1, by omega, by go_num, .inr ⟨by omega, by rw [hwd.out]⟩, hT8, hb9⟩
                case measure => simp [intOf]; omega
            · omega
          · have hwv : u17 = .string (wantC first l k torn) := by
              rcases hdis with ⟨h1, rfl⟩ | ⟨h1, rfl⟩
              · have : i = l.length := by omega
                subst this
                unfold wantC
                rw [dif_neg (by omega), List.take_length]
              · rfl
            clear hdis
            subst hwv
            generalize wantC first l k torn = want at *
            by_cases hil : i < l.length
            · have hik : ¬ i ≤ k := by omega
              go_wp2_with fail
              refine (side_any w.heap.size b row6 _ 0 _ hT7 hok6).mono ?_
              rintro e w9 ⟨rfl, hb9⟩
              rw [HS.out]
              have hT9 := hT7.below hb9
              have hbb := hb7.trans (hb9.mono hb7.size)
              clear hT7 hb9
              go_wp2_with (first | (go_at_call 12; refine (num_any _ _).mono ?_; rintro e w' ⟨rfl, rfl⟩))
              refine (loose_any w.heap.size b row6 _ _ hT9).mono ?_
              rintro e w' ⟨rfl, rfl⟩
              rw [show (fallF (wst first l) 0 0 keep torn).loose.length = 0 from rfl]
              go_wp2_with fail
              refine (awake_any _).mono ?_
              rintro e w10 ⟨rfl, hb10⟩
              have hbbb := hbb.trans (hb10.mono hbb.size)
              go_wp2
              go_ret
              exact ⟨rfl, hbbb⟩
            · go_wp2_with fail
              refine (side_any w.heap.size b row6 _ 0 _ hT7 hok6).mono ?_
              rintro e w9 ⟨rfl, hb9⟩
              rw [HS.out]
              have hT9 := hT7.below hb9
              have hbb := hb7.trans (hb9.mono hb7.size)
              clear hT7 hb9
              go_wp2_with (first | (go_at_call 12; refine (num_any _ _).mono ?_; rintro e w' ⟨rfl, rfl⟩))
              refine (loose_any w.heap.size b row6 _ _ hT9).mono ?_
              rintro e w' ⟨rfl, rfl⟩
              rw [show (fallF (wst first l) 0 0 keep torn).loose.length = 0 from rfl]
              go_wp2_with fail
              refine (awake_any _).mono ?_
              rintro e w10 ⟨rfl, hb10⟩
              have hbbb := hbb.trans (hb10.mono hbb.size)
              go_wp2
              go_ret
              exact ⟨rfl, hbbb⟩

set_option maxRecDepth 100000 in
set_option maxHeartbeats 3200000 in
theorem keeps_zero_f (first : ByteArray) (A : Option Addr) (c : Nat) (keep torn : Int) (w : World) (hf : first.size ≤ 100) :
    Calls Try.prog 5 #[.string first, .slice A 0 c, .int .i64 keep, .int .i64 torn, .bool false] w fun e w' => e = .returned (.bool true) ∧ Below w.heap.size w w' := by
  have hf' : ¬ (100 : Int) < first.size := by omega
  go_enter Try.func5, Try.ntmps5
  go_wp2_with fail
  refine (new_any 1048576 0 0 0 _).mono ?_
  rintro e w1 ⟨b, rfl, hT1, hb1⟩
  go_wp2_with fail
  refine (add1_any w.heap.size b none _ 0 first _ hT1 ((good_new 1048576 0 0 0 (by decide)).ok (by decide) (by decide)) hb1.size ?_).mono ?_
  · show (⟨#[]⟩ : ByteArray).size + (⟨#[]⟩ : ByteArray).size + mores [] + first.size ≤ _
    rw [show (⟨#[]⟩ : ByteArray).size = 0 from rfl, show mores [] = 0 from rfl]; omega
  rintro e w2 ⟨rfl, row2, hT2, hq⟩
  rw [k_add0 first hf] at hT2 ⊢
  have hb2 := hb1.trans hq
  clear hT1 hb1 hq
  go_wp2_with fail
  refine (seal_any w.heap.size b row2 _ _ hT2 ⟨?_, ?_, ?_, by show (0 : Int) ≤ 1; decide, by show (1 : Int) ≤ _; decide⟩).mono ?_
  · intro x hx
    have : x = ad first := by simpa using hx
    subst this
    exact ⟨Int.le_refl 0, by show (0 : Int) < 2; decide⟩
  · show (⟨#[]⟩ : ByteArray).size + (⟨#[]⟩ : ByteArray).size + mores [ad first] ≤ _
    rw [show (⟨#[]⟩ : ByteArray).size = 0 from rfl, show mores [ad first] = first.size by simp [mores, ad]]; omega
  · show [ad first].length ≤ _
    simp
  rintro e w3 ⟨rfl, row3, hT3, _, hq⟩
  rw [k_seal first []] at hT3 ⊢
  have hb3 := hb2.trans (hq.belowT hT2 hb2.size)
  clear hT2 hb2 hq
  go_wp2_with fail
  refine wp_loop_rounds 1 ?_
  rw [rounds_succ]
  have hT5 := hT3
  have hb5 := hb3
  clear hT3 hb3
  go_wp2_with fail
  refine (loose_any w.heap.size b _ _ _ hT5).mono ?_
  rintro e w' ⟨rfl, rfl⟩
  rw [show (kst first [] 0 : TapeSt).loose.length = 0 from rfl]
  go_wp2_with fail
  refine (fall_any w.heap.size b _ _ 0 0 keep torn _ hT5 (kst_ok first [] 0 hf (by decide) (by decide) (fun j h _ => absurd h (by simp)))).mono ?_
  rintro e w6 ⟨rfl, row6, hT7, _, hq⟩
  have hb7 := hb5.trans (hq.belowT hT5 hb5.size)
  clear hT5 hb5 hq
  have hmz := mxz_nonneg keep
  have hkr := partF_range keep 0
  obtain ⟨k, hk⟩ : ∃ k : Nat, partF keep (0 : Nat) = k := ⟨(partF keep (0 : Nat)).toNat, by omega⟩
  have hkn : k ≤ 0 := by omega
  have hs0 : (fallF (kst first [] 0) 0 0 keep torn).s0 = first := by
    show (nowF (first, ⟨#[]⟩) (tornL (kst first [] 0 : TapeSt).loose (partF keep (kst first [] 0 : TapeSt).loose.length).toNat torn)).1 = _
    rw [show (kst first [] 0 : TapeSt).loose.length = 0 from rfl, hk]
    exact (by rw [show (kst first [] 0).loose = ([] : List ByteArray).map ad from rfl]; exact fall_want first [] k torn hkn)
  have hok6 : (fallF (kst first [] 0) 0 0 keep torn).Ok := fall_ok _ _ _ _ _ (kst_ok first [] 0 hf (by decide) (by decide) (fun j h _ => absurd h (by simp)))
  have hsd : sideF (fallF (kst first [] 0) 0 0 keep torn) 0 = (first, 0) := by
    rw [show sideF (fallF (kst first [] 0) 0 0 keep torn) 0 = ((fallF (kst first [] 0) 0 0 keep torn).s0, 0) from rfl, hs0]
  have HS := Lib.hid hsd
  clear hs0 hsd hk hkr
  go_wp2_with fail
  refine wp_loop_rounds 1 ?_
  rw [rounds_succ]
  go_wp2_with fail
  refine (side_any w.heap.size b row6 _ 0 _ hT7 hok6).mono ?_
  rintro e w9 ⟨rfl, hb9⟩
  rw [HS.out]
  have hT9 := hT7.below hb9
  have hbb := hb7.trans (hb9.mono hb7.size)
  clear hT7 hb9
  go_wp2_with (first | (go_at_call 12; refine (num_any _ _).mono ?_; rintro e w' ⟨rfl, rfl⟩))
  refine (loose_any w.heap.size b row6 _ _ hT9).mono ?_
  rintro e w' ⟨rfl, rfl⟩
  rw [show (fallF (kst first [] 0) 0 0 keep torn).loose.length = 0 from rfl]
  go_wp2_with fail
  refine (awake_any _).mono ?_
  rintro e w10 ⟨rfl, hb10⟩
  have hbbb := hbb.trans (hb10.mono hbb.size)
  go_wp2
  go_ret
  exact ⟨rfl, hbbb⟩

set_option maxRecDepth 100000 in
set_option maxHeartbeats 3200000 in
theorem keeps_zero_t (first : ByteArray) (A : Option Addr) (c : Nat) (keep torn : Int) (w : World) (hf : first.size ≤ 100) :
    Calls Try.prog 5 #[.string first, .slice A 0 c, .int .i64 keep, .int .i64 torn, .bool true] w fun e w' => e = .returned (.bool true) ∧ Below w.heap.size w w' := by
  have hf' : ¬ (100 : Int) < first.size := by omega
  go_enter Try.func5, Try.ntmps5
  go_wp2_with fail
  refine (new_any 1048576 0 0 0 _).mono ?_
  rintro e w1 ⟨b, rfl, hT1, hb1⟩
  go_wp2_with fail
  refine (add1_any w.heap.size b none _ 0 first _ hT1 ((good_new 1048576 0 0 0 (by decide)).ok (by decide) (by decide)) hb1.size ?_).mono ?_
  · show (⟨#[]⟩ : ByteArray).size + (⟨#[]⟩ : ByteArray).size + mores [] + first.size ≤ _
    rw [show (⟨#[]⟩ : ByteArray).size = 0 from rfl, show mores [] = 0 from rfl]; omega
  rintro e w2 ⟨rfl, row2, hT2, hq⟩
  rw [k_add0 first hf] at hT2 ⊢
  have hb2 := hb1.trans hq
  clear hT1 hb1 hq
  go_wp2_with fail
  refine (seal_any w.heap.size b row2 _ _ hT2 ⟨?_, ?_, ?_, by show (0 : Int) ≤ 1; decide, by show (1 : Int) ≤ _; decide⟩).mono ?_
  · intro x hx
    have : x = ad first := by simpa using hx
    subst this
    exact ⟨Int.le_refl 0, by show (0 : Int) < 2; decide⟩
  · show (⟨#[]⟩ : ByteArray).size + (⟨#[]⟩ : ByteArray).size + mores [ad first] ≤ _
    rw [show (⟨#[]⟩ : ByteArray).size = 0 from rfl, show mores [ad first] = first.size by simp [mores, ad]]; omega
  · show [ad first].length ≤ _
    simp
  rintro e w3 ⟨rfl, row3, hT3, _, hq⟩
  rw [k_seal first []] at hT3 ⊢
  have hb3 := hb2.trans (hq.belowT hT2 hb2.size)
  clear hT2 hb2 hq
  go_wp2_with fail
  refine wp_loop_rounds 1 ?_
  rw [rounds_succ]
  go_wp2_with fail
  refine (wipe_any w.heap.size b row3 (kst first [] 0) 1 _ hT3 (kst_ok first [] 0 hf (by decide) (by decide) (fun j h _ => absurd h (by simp))) hb3.size).mono ?_
  rintro e w5 ⟨rfl, row5, hT5, _, hq⟩
  rw [show wipeF (kst first [] 0) 1 = (wst first [], 0) from k_wipe first []] at hT5 ⊢
  have hb5 := hb3.trans (hq.belowT hT3 hb3.size)
  clear hT3 hb3 hq
  go_wp2_with fail
  refine (loose_any w.heap.size b _ _ _ hT5).mono ?_
  rintro e w' ⟨rfl, rfl⟩
  rw [show (wst first [] : TapeSt).loose.length = 1 from rfl]
  go_wp2_with fail
  refine (fall_any w.heap.size b _ _ 0 0 keep torn _ hT5 (wst_ok first [] hf (by decide) (fun j h _ => absurd h (by simp)))).mono ?_
  rintro e w6 ⟨rfl, row6, hT7, _, hq⟩
  have hb7 := hb5.trans (hq.belowT hT5 hb5.size)
  clear hT5 hb5 hq
  have hmz := mxz_nonneg keep
  have hkr := partF_range keep 1
  obtain ⟨k, hk⟩ : ∃ k : Nat, partF keep (1 : Nat) = k := ⟨(partF keep (1 : Nat)).toNat, by omega⟩
  have hkn : k ≤ ([] : List ByteArray).length + 1 := by simp; omega
  have hs0 : (fallF (wst first []) 0 0 keep torn).s0 = first := by
    show (nowF (first, ⟨#[]⟩) (tornL (wst first [] : TapeSt).loose (partF keep (wst first [] : TapeSt).loose.length).toNat torn)).1 = _
    rw [show (wst first [] : TapeSt).loose.length = 1 from rfl, hk]
    exact (by rw [show (wst first []).loose = ([] : List ByteArray).map ad ++ [⟨1, true, ⟨#[]⟩⟩] from rfl]; exact fall_want_w first [] k torn hkn)
  have hok6 : (fallF (wst first []) 0 0 keep torn).Ok := fall_ok _ _ _ _ _ (wst_ok first [] hf (by decide) (fun j h _ => absurd h (by simp)))
  have hsd : sideF (fallF (wst first []) 0 0 keep torn) 0 = (first, 0) := by
    rw [show sideF (fallF (wst first []) 0 0 keep torn) 0 = ((fallF (wst first []) 0 0 keep torn).s0, 0) from rfl, hs0]
  have HS := Lib.hid hsd
  clear hs0 hsd hk hkr
  go_wp2_with fail
  refine wp_loop_rounds 1 ?_
  rw [rounds_succ]
  go_wp2_with fail
  refine (side_any w.heap.size b row6 _ 0 _ hT7 hok6).mono ?_
  rintro e w9 ⟨rfl, hb9⟩
  rw [HS.out]
  have hT9 := hT7.below hb9
  have hbb := hb7.trans (hb9.mono hb7.size)
  clear hT7 hb9
  go_wp2_with (first | (go_at_call 12; refine (num_any _ _).mono ?_; rintro e w' ⟨rfl, rfl⟩))
  refine (loose_any w.heap.size b row6 _ _ hT9).mono ?_
  rintro e w' ⟨rfl, rfl⟩
  rw [show (fallF (wst first []) 0 0 keep torn).loose.length = 0 from rfl]
  go_wp2_with fail
  refine (awake_any _).mono ?_
  rintro e w10 ⟨rfl, hb10⟩
  have hbbb := hbb.trans (hb10.mono hbb.size)
  go_wp2
  go_ret
  exact ⟨rfl, hbbb⟩

theorem law_keeps (first : ByteArray) (_wf : first.size ≤ maxLen) {v : Value} (l : List ByteArray) {W : World} (o : StrsAt W v l) (keep : Int) (_wk : (Lit.int .i64 keep).wf = true) (torn : Int) (_wt : (Lit.int .i64 torn).wf = true) (other : Bool) :
    Calls Try.prog 5 #[.string first, v, .int .i64 keep, .int .i64 torn, .bool other] W fun e w' => e = .returned (.bool true) ∧ Below W.heap.size W w' := by
  by_cases hf : 100 < first.size
  · exact keeps_long first v keep torn other W hf
  · rcases o with ⟨rfl, A, c, rfl⟩ | ⟨lb, lo, c, rfl, h1, h2⟩
    · cases other with
      | false => exact keeps_zero_f first A c keep torn W (by omega)
      | true => exact keeps_zero_t first A c keep torn W (by omega)
    · by_cases hl : 20 < l.length
      · exact keeps_many first _ _ c keep torn other W (by omega) hl
      · exact keeps_some first lb lo c l keep torn other W (by omega) (by omega) h1 h2
end Go.Proofs.Ytallocndghjoeaa
