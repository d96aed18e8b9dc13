/- Save, Note and Open in plain words: what a journal and its tape come to. -/
import Derived.Test.YtepcagakegbjfaaDoorGd
import Derived.Test.YtepcagakegbjfaaDoorGe
import Derived.Test.YtepcagakegbjfaaDoorGa
import Derived.Test.YtepcagakegbjfaaDoorGc
import Derived.HandedShaped
import Derived.LaidMore
import Derived.LaidLaws
import Derived.Stop.LaidErr
import Derived.Lib.LaidTab
import Derived.MakeChecks
import Derived.Shelf.Vars
namespace Go.Proofs.YtepcagakegbjfaaDoor
open Go.RowKit Go.Proofs.YtepcagakegbjfaaDoorW.PrintWords
open Jr (bs lb bs_lb lb_bs bs_app okLine TapeSt addF sealF wipeF fallF newSt Has Mes Out Down Jn Sd sizeL)

theorem map_bs_lb (l : List ByteArray) : (l.map lb).map bs = l := by
  rw [List.map_map]
  have : (bs ∘ lb) = id := funext fun b => bs_lb b
  rw [this, List.map_id]
theorem mes_ok {st : TapeSt} {B c : Nat} (h : Mes st B c) (hB : B ≤ 100000000) (hc : c ≤ 1000000) : st.Ok :=
  ⟨fun x hx => by rcases h.side x hx with e | e <;> omega, by have := h.size; omega, by have := h.many; omega, h.calls0, by have := h.calls1; omega⟩
theorem wipe_mes {st : TapeSt} {B c : Nat} (h : Mes st B c) (hd : st.down = false) {n : Int} (hn : Sd n) (hB : B ≤ 100000000) (hc : c < 1000000) :
    (wipeF st n).1.Ok ∧ (wipeF st n).1.s0.size + (wipeF st n).1.s1.size + Jr.mores (wipeF st n).1.loose ≤ 100000000 := by
  have h1 := h.wipeF hn hd
  exact ⟨mes_ok h1 hB (by omega), Nat.le_trans h1.size hB⟩
theorem view_nonneg (st : TapeSt) {n : Int} (hn : Sd n) (l : List ByteArray) : ((Jr.catF l).size : Int) ≤ Jr.addTot st n (Jr.catF l) := by
  rw [Jr.addTot_eq st hn]
  omega
theorem add_mes {st : TapeSt} {B c : Nat} (h : Mes st B c) {n : Int} (hn : Sd n) (hB : B ≤ 1000000) (hc : c < 1000000) (hr : st.room ≤ 1000000) (m : List ByteArray) : (addF st n m).1.Ok := by
  have hok := mes_ok h (by omega) (by omega)
  unfold addF
  split
  · split
    · exact hok
    · rename_i hg hroom
      have hv := view_nonneg st hn m
      have hsz : (Jr.catF m).size ≤ 1000000 := by omega
      have := h.size
      have := h.many
      have := h.calls0
      have := h.calls1
      refine ⟨?_, ?_, ?_, by show 0 ≤ st.calls + 1; omega, by show st.calls + 1 ≤ _; omega⟩
      · intro x hx
        unfold Jr.putF at hx
        simp only at hx
        split at hx
        · exact hok.side x hx
        · rcases List.mem_append.1 hx with q | q
          · exact hok.side x q
          · rw [List.mem_singleton.1 q]
            rcases hn with e | e <;> (show 0 ≤ n ∧ n < 2; omega)
      · unfold Jr.putF
        simp only
        split
        · omega
        · rw [Jr.mores_app]
          show _ + (_ + ((Jr.catF m).size + 0)) ≤ _
          omega
      · unfold Jr.putF
        simp only
        split
        · omega
        · rw [List.length_append]
          show _ + 1 ≤ _
          omega
  · exact hok
theorem wipe_add_ok {st : TapeSt} {B c : Nat} (h : Mes st B c) (hd : st.down = false) {n : Int} (hn : Sd n) (hB : B ≤ 1000000) (hc : c < 100000) (hr : st.room ≤ 1000000) (m : List ByteArray) : (addF (wipeF st n).1 n m).1.Ok :=
  add_mes (h.wipeF hn hd) hn hB (by omega) (by rw [Jr.wipeF_room]; exact hr) m
theorem gateB_zero {l : List ByteArray} (h : ∀ s ∈ l, okLine (lb s) = true) : gateB false l = 0 := by
  unfold gateB
  rw [if_neg (by decide), if_pos]
  rw [List.all_eq_true]
  intro x hx
  obtain ⟨s, hs, rfl⟩ := List.mem_map.1 hx
  exact h s hs
/-- A journal in memory. -/
def Jat (w : World) (bas b tb : Nat) (row : Option Nat) (lv : Value) (st : TapeSt) (j : Jn) : Prop := JAt w bas b tb row lv st j.side j.turn (j.lines.map bs) j.dead
/-- What a call leaves behind. -/
def Left (w : World) (bas b tb : Nat) (row : Option Nat) (lv : Value) (st : TapeSt) (j : Jn) (L : List Jr.S) (B c : Nat) (e : Ending) (w' : World) : Prop :=
  ∃ st' j' code row' lv', e = .returned (.int .i64 code) ∧ Jat w' bas b tb row' lv' st' j' ∧ RowOk w row row' ∧ FrJ w w' b tb row ∧ RowOk w lv.ownBlock lv'.ownBlock ∧ Out st st' j j' L code ∧ Mes st' B c ∧ st'.room = st.room ∧ (st.crash = 0 → code = 0)
theorem save_glue (bas b tb : Nat) (row : Option Nat) (lv : Value) (st : TapeSt) (j : Jn) (xs : List Jr.S) (B c : Nat) (A : Option Addr) (cc : Nat) (ls : List ByteArray) (w : World) (hg : Gl w) (h8 : 8 ≤ bas) (hbs : bas ≤ w.heap.size)
    (hJ : Jat w bas b tb row lv st j) (hH : Has st j xs) (hM : Mes st B c) (hc : c < 100000) (hr : st.room ≤ 1000000) (ht : j.turn ≤ 1000000)
    (hls : LinesAt w (.slice A ls.length cc) ls) (hA : ∀ a, A = some a → a.block ≠ b ∧ a.block ≠ tb ∧ row ≠ some a.block) (hln : ls.length ≤ 1000) (hok : ∀ s ∈ ls, okLine (lb s) = true) (hroom : ((B + 26 + sizeL (ls.map lb) : Nat) : Int) ≤ st.room) :
    Calls Tryd.prog 15 #[.pointer (some ⟨b, 0, none⟩), .slice A ls.length cc] w (Left w bas b tb row lv st j (ls.map lb) (B + 26 + sizeL (ls.map lb)) (c + 3)) := by
  have hd := hH.dead
  have hokl : ∀ s ∈ ls.map lb, okLine s = true := by
    intro s hs
    obtain ⟨x, hx, rfl⟩ := List.mem_map.1 hs
    exact hok x hx
  have hB : B + 26 + sizeL (ls.map lb) ≤ 1000000 := by omega
  obtain ⟨o1, o2, o3, o4, o5⟩ := Jr.anew_out hH hM hokl ht hB hroom _ rfl
  have heq := anewB_eq st j.side j.turn (j.lines.map bs) j.dead ls
  rw [map_lb_bs] at heq
  have hj : (⟨j.side, j.turn, j.lines, j.dead⟩ : Jn) = j := rfl
  rw [hj] at heq
  have hsd : 0 ≤ j.side ∧ j.side ≤ 1 := by rcases hH.side with e | e <;> omega
  have t0 := hH.turn0
  have hms := hM.size
  refine (save_near bas b tb row lv st j.side j.turn (j.lines.map bs) j.dead A cc ls w hg h8 hbs hJ (mes_ok hM (by omega) (by omega)) hsd ⟨t0, by omega⟩ hls hA hln (fun s hs => ?_) (by omega) (wipe_mes hM hH.down hH.side.flip (by omega) (by omega))
    (wipe_add_ok hM hH.down hH.side.flip (by omega) hc hr) _ rfl (by rw [hd]; exact gateB_zero hok) (by rw [heq] at o4; exact o4)).mono ?_
  · have := (Jr.okLine_len (hok s hs)).1
    rw [Jr.lb_length] at this
    omega
  · rintro e w' ⟨rfl, row', lv', h1, h2, h3, h4⟩
    rw [heq] at o1 o2 o3 o5
    exact ⟨_, _, _, row', lv', rfl, by unfold Jat; simp only; rw [map_bs_lb]; exact h1, h2, h3, h4, o1, o2, o3, o5⟩
theorem note_glue (bas b tb : Nat) (row : Option Nat) (lv : Value) (st : TapeSt) (j : Jn) (xs : List Jr.S) (B c : Nat) (s : ByteArray) (w : World) (hg : Gl w) (h8 : 8 ≤ bas) (hbs : bas ≤ w.heap.size)
    (hJ : Jat w bas b tb row lv st j) (hH : Has st j xs) (hM : Mes st B c) (hc : c < 100000) (hr : st.room ≤ 1000000) (ht : j.turn ≤ 1000000) (hln : j.lines.length ≤ 1000000)
    (hok : okLine (lb s) = true) (hroom : ((B + 26 + sizeL [lb s] : Nat) : Int) ≤ st.room) :
    Calls Tryd.prog 17 #[.pointer (some ⟨b, 0, none⟩), .string s] w (Left w bas b tb row lv st j (j.lines ++ [lb s]) (B + 26 + sizeL [lb s]) (c + 3)) := by
  have hd := hH.dead
  have hok1 : ∀ x ∈ [s], okLine (lb x) = true := fun x hx => by rw [List.mem_singleton.1 hx]; exact hok
  have hokl : ∀ x ∈ [lb s], okLine x = true := fun x hx => by rw [List.mem_singleton.1 hx]; exact hok
  have hB : B + 26 + sizeL [lb s] ≤ 1000000 := by omega
  have hsd : 0 ≤ j.side ∧ j.side ≤ 1 := by rcases hH.side with e | e <;> omega
  have t0 := hH.turn0
  have hms := hM.size
  have hsz : s.size ≤ 1000 := by
    have := (Jr.okLine_len hok).1
    rw [Jr.lb_length] at this
    exact this
  have hgz : gateB j.dead [s] = 0 := by rw [hd]; exact gateB_zero hok1
  by_cases ht0 : j.turn = 0
  · have hl0 := Jr.has_turn_lines hH ht0
    obtain ⟨o1, o2, o3, o4, o5⟩ := Jr.anew_out hH hM hokl ht hB hroom _ rfl
    have heq := anewB_eq st j.side j.turn (j.lines.map bs) j.dead [s]
    rw [map_lb_bs] at heq
    have hj : (⟨j.side, j.turn, j.lines, j.dead⟩ : Jn) = j := rfl
    rw [hj, show [s].map lb = [lb s] from rfl] at heq
    rw [show j.lines ++ [lb s] = [lb s] by rw [hl0]; rfl]
    unfold Jat at hJ
    rw [ht0] at hJ heq
    refine (note_first bas b tb row lv st j.side (j.lines.map bs) j.dead s w hg h8 hbs hJ (mes_ok hM (by omega) (by omega)) hsd (by omega) (by omega) (wipe_mes hM hH.down hH.side.flip (by omega) (by omega))
      (wipe_add_ok hM hH.down hH.side.flip (by omega) hc hr) hgz _ rfl).mono ?_
    rintro e w' ⟨rfl, row', lv', h1, h2, h3, h4⟩
    rw [heq] at o1 o2 o3 o5
    exact ⟨_, _, _, row', lv', rfl, by unfold Jat; simp only; rw [map_bs_lb]; exact h1, h2, h3, h4, o1, o2, o3, o5⟩
  · obtain ⟨o1, o2, o3, o4, o5⟩ := Jr.behind_out hH hM hok ht0 ht hB hroom _ rfl
    have heq := behindB_eq st j.side j.turn (j.lines.map bs) j.dead s
    rw [map_lb_bs] at heq
    have hj : (⟨j.side, j.turn, j.lines, j.dead⟩ : Jn) = j := rfl
    rw [hj] at heq
    refine (note_near bas b tb row lv st j.side j.turn (j.lines.map bs) j.dead s w hg hbs hJ (mes_ok hM (by omega) (by omega)) (by omega) (add_mes hM hH.side (by omega) (by omega) hr _) (by rw [List.length_map]; exact hln) (by omega) hgz ht0 _ rfl (by rw [heq] at o4; exact o4)).mono ?_
    rintro e w' ⟨rfl, row', lv', h1, h2, h3, h4⟩
    rw [heq] at o1 o2 o3 o5
    exact ⟨_, _, _, row', lv', rfl, by unfold Jat; simp only; rw [map_bs_lb]; exact h1, h2, h3, h4, o1, o2, o3, o5⟩
/-- A tape that has j's lines is opened as j. -/
theorem open_glue (bas tb : Nat) (row : Option Nat) (st : TapeSt) (j : Jn) (xs : List Jr.S) (B c : Nat) (w : World) (hg : Gl w) (hbs : bas ≤ w.heap.size) (hT : TapeAt w bas tb row st) (hH : Has st j xs) (hM : Mes st B c) (hB : B ≤ 1000000) (hc : c < 100000) :
    Calls Tryd.prog 12 #[.pointer (some ⟨tb, 0, none⟩)] w fun e w' => ∃ lv, e = .returned (.tuple #[.pointer (some ⟨w.heap.size, 0, none⟩), .int .i64 0]) ∧ Jat w' bas w.heap.size tb row lv st j ∧ Below w.heap.size w w' ∧ ∀ k, lv.ownBlock = some k → w.heap.size ≤ k := by
  have hv := hM.view
  have hv0 : st.now.1.size ≤ B := by
    have : (Jr.view st 0).length = st.now.1.size := rfl
    omega
  have hv1 : st.now.2.size ≤ B := by
    have : (Jr.view st 1).length = st.now.2.size := rfl
    omega
  refine (open_any unframed_any bas tb row st w hg hbs hT (mes_ok hM (by omega) (by omega)) hH.down (by omega) (by omega)).mono ?_
  rintro e w' ⟨lv, he, h1, h2, hb⟩
  have ho : (⟨(openP st 2).1, (openP st 2).2.1, (openP st 2).2.2.map lb, false⟩ : Jn) = j := by rw [← openP_eq]; exact hH.opened
  refine ⟨lv, he, ?_, hb, fun k hk => own_bound h2 k hk⟩
  rw [← ho]
  unfold Jat
  simp only
  rw [map_bs_lb]
  have hlow := hT.low
  have htb : tb < w.heap.size := by obtain ⟨_, _, _, hB, _⟩ := hT; exact blk_lt hB
  refine ⟨h1, own_weaken h2 hbs, hbs, hT.below hb, by omega, ?_⟩
  obtain ⟨lv2, hr, _, _, hO⟩ := hT
  intro e2
  have := own_lt hO _ (by rw [hr, e2])
  omega
end Go.Proofs.YtepcagakegbjfaaDoor
/- The laws' own lines: Line, lines and Texts in plain words. -/
namespace Go.Proofs.YtepcagakegbjfaaDoor
open Go.RowKit Go.Proofs.YtepcagakegbjfaaDoorW.PrintWords PJournalHas
open Jr (bs lb bs_lb lb_bs bs_app okLine)

def lineB (n : Nat) : ByteArray := (doorkeeperlaw22_Line.f 100 (n : Int)).getD ⟨#[]⟩
def goodO (o : Option ByteArray) : Bool := match o with
  | some r => r.size ≤ 45 && okLine (lb r)
  | none => false
theorem goodO_out : ∀ o : Option ByteArray, goodO o = true → o = some (o.getD ⟨#[]⟩) ∧ (o.getD ⟨#[]⟩).size ≤ 45 ∧ okLine (lb (o.getD ⟨#[]⟩)) = true
  | none, h => by cases h
  | some r, h => by
    simp only [goodO, Bool.and_eq_true, decide_eq_true_eq] at h
    exact ⟨rfl, h.1, h.2⟩
def goodB (n : Nat) : Bool := goodO (doorkeeperlaw22_Line.f 100 (n : Int))
theorem good_0 : (List.range' 0 32).all goodB = true := by kernel_rfl
theorem good_1 : (List.range' 32 32).all goodB = true := by kernel_rfl
theorem good_2 : (List.range' 64 32).all goodB = true := by kernel_rfl
theorem good_3 : (List.range' 96 32).all goodB = true := by kernel_rfl
theorem good_4 : (List.range' 128 32).all goodB = true := by kernel_rfl
theorem good_5 : (List.range' 160 32).all goodB = true := by kernel_rfl
theorem good_6 : (List.range' 192 32).all goodB = true := by kernel_rfl
theorem good_7 : (List.range' 224 32).all goodB = true := by kernel_rfl
theorem good_any (n : Nat) (h : n < 256) : goodB n = true := by
  have go : ∀ a, (List.range' a 32).all goodB = true → a ≤ n → n < a + 32 → goodB n = true := fun a h h1 h2 => List.all_eq_true.1 h n (by rw [List.mem_range'_1]; omega)
  by_cases h0 : n < 32
  · exact go 0 good_0 (by omega) (by omega)
  by_cases h1 : n < 64
  · exact go 32 good_1 (by omega) (by omega)
  by_cases h2 : n < 96
  · exact go 64 good_2 (by omega) (by omega)
  by_cases h3 : n < 128
  · exact go 96 good_3 (by omega) (by omega)
  by_cases h4 : n < 160
  · exact go 128 good_4 (by omega) (by omega)
  by_cases h5 : n < 192
  · exact go 160 good_5 (by omega) (by omega)
  by_cases h6 : n < 224
  · exact go 192 good_6 (by omega) (by omega)
  by_cases h7 : n < 256
  · exact go 224 good_7 (by omega) (by omega)
  omega
theorem line_f {n : Nat} (h : n < 256) : doorkeeperlaw22_Line.f 100 (n : Int) = some (lineB n) ∧ (lineB n).size ≤ 45 ∧ okLine (lb (lineB n)) = true :=
  goodO_out (doorkeeperlaw22_Line.f 100 (n : Int)) (good_any n h)
theorem line_fk {n k : Nat} (h : n < 256) (hk : 100 ≤ k) : doorkeeperlaw22_Line.f k (n : Int) = some (lineB n) := by
  induction k with
  | zero => omega
  | succ k ih =>
    by_cases e : k + 1 = 100
    · rw [e]; exact (line_f h).1
    · exact doorkeeperlaw22_Line.mono _ k _ (ih (by omega))
/-- A number's line. -/
def lineI (x : Int) : ByteArray := lineB x.toNat
def U8 (x : Int) : Prop := 0 ≤ x ∧ x < 256
theorem line_fi {x : Int} {k : Nat} (h : U8 x) (hk : 100 ≤ k) : doorkeeperlaw22_Line.f k x = some (lineI x) := by
  have := line_fk (n := x.toNat) (k := k) (by have := h.1; have := h.2; omega) hk
  rw [show ((x.toNat : Nat) : Int) = x from Int.toNat_of_nonneg h.1] at this
  exact this
theorem lineI_ok {x : Int} (h : U8 x) : (lineI x).size ≤ 45 ∧ okLine (lb (lineI x)) = true := (line_f (n := x.toNat) (by have := h.1; have := h.2; omega)).2
theorem wrap_u8 {x : Int} (h : U8 x) : wrap64 x = x := by
  have := h.1; have := h.2
  unfold wrap64
  omega
theorem line16_any {x : Int} (h : U8 x) (w : World) : Calls Tryd.prog 16 #[.int .u8 x] w fun e w' => e = .returned (.string (lineI x)) ∧ Below w.heap.size w w' :=
  doorkeeperlaw22_Line.calls 100 x (lineI x) w ⟨by rw [wrap_u8 h]; exact h.1⟩ (line_fi h (Nat.le_refl _))
theorem lines_l0 (xs : List Int) (h : ∀ x ∈ xs, U8 x) (hn : xs.length < 1000000) : ∀ (m j : Nat), j + m = xs.length → doorkeeperlaw22_lines.l0 (m + 101) xs ((xs.take j).map lineI) (j : Int) = some (xs.map lineI) := by
  intro m
  induction m with
  | zero =>
    intro j hj
    obtain rfl : j = xs.length := by omega
    unfold doorkeeperlaw22_lines.l0
    rw [if_neg (by omega), List.take_length]
  | succ m ih =>
    intro j hj
    have hjl : j < xs.length := by omega
    rw [show m + 1 + 101 = (m + 101) + 1 by omega]
    unfold doorkeeperlaw22_lines.l0
    rw [if_pos (by omega), if_pos (by omega)]
    have e1 : rd xs (j : Int) = xs[j] := by unfold rd; simp [List.getD_eq_getElem?_getD, hjl]
    rw [e1, line_fi (h _ (List.getElem_mem hjl)) (by omega), Option.bind_some, if_pos (by rw [List.length_map, List.length_take]; omega)]
    have e2 := ih (j + 1) (by omega)
    rw [List.take_succ_eq_append_getElem hjl, List.map_append] at e2
    have e3 : wrap64 ((j : Int) + 1) = ((j + 1 : Nat) : Int) := by unfold wrap64; omega
    rw [e3]
    exact e2
theorem own_R {w : World} {base : Nat} {v : Value} {l : List ByteArray} (h : Kd.R Kd.string 9 w base (fun _ => True) v l) : OwnLines w base v l := Kd.own_of_R h
theorem own_toR {w : World} {base : Nat} {v : Value} {l : List ByteArray} (h : OwnLines w base v l) : Kd.R Kd.string 9 w base (fun _ => True) v l := Kd.R_of_own h (fun _ _ => trivial)
theorem lines_own {xs : List Int} (h : ∀ x ∈ xs, U8 x) (hn : xs.length < 1000000) (A : Option Addr) (c : Nat) (w : World) (hr : Kd.C (Kd.int .u8) w A xs.length xs) (hc : xs.length ≤ c) :
    Calls Tryd.prog 14 #[.slice A xs.length c] w fun e w' => ∃ v, e = .returned v ∧ OwnLines w' w.heap.size v (xs.map lineI) ∧ Below w.heap.size w w' := by
  refine (doorkeeperlaw22_lines.calls (xs.length + 101) A c xs (xs.map lineI) w hr hc ⟨fun i => ?_⟩ (lines_l0 xs h hn xs.length 0 (by omega))).mono ?_
  · unfold rd
    rcases Nat.lt_or_ge i.toNat xs.length with hl | hl
    · rw [List.getD_eq_getElem?_getD, List.getElem?_eq_getElem hl]
      have hu := h _ (List.getElem_mem hl)
      show 0 ≤ wrap64 xs[i.toNat]
      rw [wrap_u8 hu]; exact hu.1
    · rw [List.getD_eq_getElem?_getD, List.getElem?_eq_none hl]
      show 0 ≤ wrap64 0
      unfold wrap64
      omega
  · rintro e w' ⟨v, he, h1, h2⟩
    exact ⟨v, he, own_R h1, h2⟩
theorem texts_l0 (l l' : List ByteArray) (hl : l.length = l'.length) (hn : l.length < 1000000) : ∀ (m j : Nat), j + m = l.length → doorkeeperref1_Texts.l0 (m + 1) l l' (j : Int) = some (decide (l.drop j = l'.drop j)) := by
  intro m
  induction m with
  | zero =>
    intro j hj
    unfold doorkeeperref1_Texts.l0
    rw [if_neg (by omega), List.drop_of_length_le (by omega), List.drop_of_length_le (by omega)]
    simp
  | succ m ih =>
    intro j hj
    have h1 : j < l.length := by omega
    have h2 : j < l'.length := by omega
    unfold doorkeeperref1_Texts.l0
    rw [if_pos (by omega), if_pos (by omega), if_pos (by omega)]
    have e1 : rdOf ByteArray.empty l (j : Int) = l[j] := by unfold rdOf; simp [List.getD_eq_getElem?_getD, h1]
    have e2 : rdOf ByteArray.empty l' (j : Int) = l'[j] := by unfold rdOf; simp [List.getD_eq_getElem?_getD, h2]
    have d1 := List.drop_eq_getElem_cons h1
    have d2 := List.drop_eq_getElem_cons h2
    rw [e1, e2]
    have e3 : wrap64 ((j : Int) + 1) = ((j + 1 : Nat) : Int) := by unfold wrap64; omega
    by_cases he : l[j] = l'[j]
    · rw [if_pos (by rw [he]), e3, ih (j + 1) (by omega)]
      rw [d1, d2, he]
      congr 1
      rw [decide_eq_decide]
      exact ⟨fun h => by rw [h], fun h => by injection h⟩
    · rw [if_neg (fun e => he ?_)]
      · rw [d1, d2]
        congr 1
        symm
        rw [decide_eq_false_iff_not]
        intro h
        injection h with h
        exact he h
      · have := (bytes_beq_f l[j] l'[j]).2 he
        rw [e] at this
        simp at this
theorem texts_f (l l' : List ByteArray) (hn : l.length < 1000000) : doorkeeperref1_Texts.f (l.length + 1) l l' = some (decide (l = l')) := by
  unfold doorkeeperref1_Texts.f
  by_cases hl : l.length = l'.length
  · rw [if_pos (by omega)]
    have := texts_l0 l l' hl hn l.length 0 (by omega)
    simpa using this
  · rw [if_neg (by omega)]
    have : l ≠ l' := fun e => hl (by rw [e])
    simp [this]
theorem texts_own {w : World} {b b' : Nat} {v v' : Value} {l l' : List ByteArray} (ho : OwnLines w b v l) (ho' : OwnLines w b' v' l') (hn : l.length < 1000000) :
    Calls Tryd.prog 18 #[v, v'] w fun e w' => e = .returned (.bool (decide (l = l'))) ∧ Drawn0 w w' := by
  obtain ⟨A, c, rfl, hc, hC⟩ := Kd.R_reads (own_toR ho)
  obtain ⟨A', c', rfl, hc', hC'⟩ := Kd.R_reads (own_toR ho')
  exact doorkeeperref1_Texts.calls (l.length + 1) A c l A' c' l' (decide (l = l')) w hC hc hC' hc' (texts_f l l' hn)
/-- What the laws' walks are told of a number's line (so that no check ever reckons one). -/
structure LineSpec (ln : Int → ByteArray) : Prop where
  ok : ∀ x, U8 x → (ln x).size ≤ 45 ∧ okLine (lb (ln x)) = true
  line : ∀ x (w : World), U8 x → Calls Tryd.prog 16 #[.int .u8 x] w fun e w' => e = .returned (.string (ln x)) ∧ Below w.heap.size w w'
  lines : ∀ (xs : List Int) (A : Option Addr) (c : Nat) (w : World), (∀ x ∈ xs, U8 x) → xs.length < 1000000 → Kd.C (Kd.int .u8) w A xs.length xs → xs.length ≤ c →
    Calls Tryd.prog 14 #[.slice A xs.length c] w fun e w' => ∃ v, e = .returned v ∧ OwnLines w' w.heap.size v (xs.map ln) ∧ Below w.heap.size w w'
theorem lineSpec : LineSpec lineI := ⟨fun _ h => lineI_ok h, fun _ w h => line16_any h w, fun xs A c w h hn hr hc => lines_own h hn A c w hr hc⟩
end Go.Proofs.YtepcagakegbjfaaDoor
/- awake: the document's example. -/
namespace Go.Proofs.YtepcagakegbjfaaDoor
open Go.RowKit Go.Proofs.YtepcagakegbjfaaDoorW.PrintWords
open Jr (bs lb bs_lb lb_bs bs_app okLine TapeSt addF sealF wipeF fallF newSt Has Mes Out Down Jn Sd sizeL)

theorem FrJ.belowB {w w' : World} {bas b tb : Nat} {row : Option Nat} (h : FrJ w w' b tb row) (hs : bas ≤ w.heap.size) (h1 : bas ≤ b) (h2 : bas ≤ tb) (h3 : ∀ k, row = some k → bas ≤ k) : Below bas w w' :=
  ⟨h.os, h.tape, h.output, h.size, fun k hk => h.block k (by omega) (by omega) (by omega) (fun e => by have := h3 k e.symm; omega)⟩
theorem Jat.below {w w' : World} {bas b tb : Nat} {row : Option Nat} {lv : Value} {st : TapeSt} {j : Jn} (h : Jat w bas b tb row lv st j) (hb : Below w.heap.size w w') : Jat w' bas b tb row lv st j :=
  ⟨(hb.block b (blk_lt h.block)).trans h.block, pw_own_below h.own hb, h.base, h.tape.below hb, h.ne, h.nrow⟩
theorem Jat.lt {w : World} {bas b tb : Nat} {row : Option Nat} {lv : Value} {st : TapeSt} {j : Jn} (h : Jat w bas b tb row lv st j) : b < w.heap.size ∧ tb < w.heap.size ∧ ∀ k, row = some k → k < w.heap.size := by
  refine ⟨blk_lt h.block, ?_⟩
  obtain ⟨lv2, hr, _, hB, hO⟩ := h.tape
  exact ⟨blk_lt hB, fun k hk => own_lt hO k (by rw [hr, hk])⟩
theorem Jat.frame {w w' : World} {bas b tb : Nat} {row : Option Nat} {lv : Value} {st : TapeSt} {j : Jn} (h : Jat w bas b tb row lv st j) (hs : bas ≤ w.heap.size) (hF : FrJ w w' b tb row) : Below bas w w' :=
  hF.belowB hs h.base h.tape.low.1 h.tape.low.2
theorem mes_new (room crash keep torn : Int) : Mes (newSt room crash keep torn) 0 0 :=
  ⟨Nat.le_refl _, Nat.le_refl _, Int.le_refl _, Int.le_refl _, fun _ h => by cases h⟩
theorem out_zero {st st' : TapeSt} {j j' : Jn} {L : List Jr.S} {code : Int} (h : Out st st' j j' L code) (h0 : code = 0) : (∃ xs, Has st' j' xs) ∧ j'.lines = L ∧ j'.turn ≤ j.turn + 1 ∧ 1 ≤ j'.turn ∧ st'.crash = st.crash := by
  cases h with
  | ok h0 xs h hl ht ht1 hc => exact ⟨⟨xs, h⟩, hl, ht, ht1, hc⟩
  | fell h1 => rw [h0] at h1; cases h1
theorem Left.calm {w w' : World} {bas b tb : Nat} {row : Option Nat} {lv : Value} {st : TapeSt} {j : Jn} {L : List Jr.S} {B c : Nat} {e : Ending} (h : Left w bas b tb row lv st j L B c e w') (hc : st.crash = 0) (hJ : Jat w bas b tb row lv st j) (hs : bas ≤ w.heap.size) :
    ∃ st' j' xs' row' lv', e = .returned (.int .i64 0) ∧ Jat w' bas b tb row' lv' st' j' ∧ Has st' j' xs' ∧ Mes st' B c ∧ st'.room = st.room ∧ st'.crash = 0 ∧ j'.lines = L ∧ j'.turn ≤ j.turn + 1 ∧ Below bas w w' ∧ FrJ w w' b tb row ∧ RowOk w row row' ∧ RowOk w lv.ownBlock lv'.ownBlock := by
  obtain ⟨st', j', code, row', lv', he, h1, h2, h3, hlv, h4, h5, h6, h7⟩ := h
  have h0 := h7 hc
  obtain ⟨⟨xs, q1⟩, q2, q3, q4, q5⟩ := out_zero h4 h0
  exact ⟨st', j', xs, row', lv', by rw [he, h0], h1, q1, h5, h6, by rw [q5, hc], q2, q3, hJ.frame hs h3, h3, h2, hlv⟩
/-- Lines, of a journal in memory. -/
theorem lines_glue {bas b tb : Nat} {row : Option Nat} {lv : Value} {st : TapeSt} {j : Jn} {w : World} (hJ : Jat w bas b tb row lv st j) (hln : j.lines.length ≤ 1000000) :
    Calls Tryd.prog 19 #[.pointer (some ⟨b, 0, none⟩)] w fun e w' => ∃ v, e = .returned v ∧ OwnLines w' w.heap.size v (j.lines.map bs) ∧ Below w.heap.size w w' :=
  lines_any bas b tb row lv st j.side j.turn (j.lines.map bs) j.dead w hJ (by rw [List.length_map]; exact hln)
theorem linesAt_one (w : World) (s : ByteArray) (w' : World) (hb : Below (w.heap.size + 1) (w.alloc (.cells #[.string s] 9)) w') : LinesAt w' (.slice (some ⟨w.heap.size, 0, none⟩) [s].length 1) [s] := by
  have e : w'.heap[w.heap.size]? = some (.cells #[.string s] 9 (0, 0)) := (hb.block _ (by omega)).trans (World.alloc_heap_new w _)
  refine .inr ⟨_, 0, 1, rfl, blk_lt e, fun k hk => ?_⟩
  obtain rfl : k = 0 := by simp at hk; omega
  exact blk_cell e 0
set_option maxHeartbeats 1600000 in
theorem awake_any (w : World) (hg : Gl w) : Calls Tryd.prog 10 #[] w fun e w' => e = .returned (.bool true) ∧ Below w.heap.size w w' := by
  have h8 := hg.many
  go_enter Tryd.func10, Tryd.ntmps10
  go_wp2_with fail
  refine (new_any 1000 0 0 0 _).mono ?_
  rintro e w1 ⟨g, rfl, hT, hb1⟩
  go_wp2_with fail
  refine (open_glue w.heap.size g none _ ⟨0, 0, [], false⟩ [] 0 0 _ (hg.below hb1 h8) hb1.size hT (Jr.has_new ..) (mes_new ..) (by decide) (by decide)).mono ?_
  rintro e w2 ⟨lv, rfl, hJ2, hb2, _⟩
  have hB2 := hb1.trans (hb2.mono hb1.size)
  clear hb1 hb2 hT
  generalize w1.heap.size = b at *
  go_wp2_with fail
  refine (num_any 0 _).mono ?_
  rintro e w' ⟨rfl, rfl⟩
  go_wp2_with fail
  refine (lines_glue hJ2 (by decide)).mono ?_
  rintro e w3 ⟨v3, rfl, hO3, hb3⟩
  obtain ⟨A3, c3, rfl⟩ := own_slice hO3
  have hJ3 := hJ2.below hb3
  have hB3 := hB2.trans (hb3.mono hB2.size)
  clear hJ2 hb3 hB2 hO3
  go_wp2_with fail
  have hJ3a := hJ3.below ((Below.refl w3.heap.size w3).alloc (Nat.le_refl _) (.cells #[.string ⟨#[97]⟩] 9))
  have hS3 : w.heap.size ≤ (w3.alloc (.cells #[.string ⟨#[97]⟩] 9)).heap.size := by rw [World.size_alloc]; have := hB3.size; omega
  have hG3 := (hg.below hB3 h8).alloc (.cells #[.string ⟨#[97]⟩] 9)
  have hlt := hJ3.lt
  refine (save_glue w.heap.size b g none lv _ _ [] 0 0 (some ⟨w3.heap.size, 0, none⟩) 1 [⟨#[97]⟩] _ hG3 h8 hS3 hJ3a (Jr.has_new ..) (mes_new ..) (by decide) (by decide) (by decide) (linesAt_one w3 ⟨#[97]⟩ _ (Below.refl _ _)) (by rintro a ha; cases ha; simp only [ne_eq]; refine ⟨?_, ?_, ?_⟩ <;> first | omega | simp) (by decide) (by intro s hs; rw [List.mem_singleton.1 hs]; decide) (by decide)).mono ?_
  intro e w4 hL
  obtain ⟨st4, j4, xs4, row4, lv4, rfl, hJ4, hH4, hM4, hr4, hc4, hl4, ht4, hb4, _, _, _⟩ := hL.calm rfl hJ3a hS3
  have hB4 := (hB3.alloc hB3.size _).trans hb4
  clear hL hJ3a hS3 hG3 hlt hJ3 hB3 hb4
  go_wp2_with fail
  refine (num_any 0 _).mono ?_
  rintro e w' ⟨rfl, rfl⟩
  go_wp2_with fail
  have ht4b : j4.turn ≤ 1 := ht4
  have hr4b : st4.room = 1000 := hr4
  refine (note_glue w.heap.size b g row4 lv4 st4 j4 xs4 _ _ ⟨#[98]⟩ _ (hg.below hB4 h8) h8 hB4.size hJ4 hH4 hM4 (by decide) (by omega) (by omega) (by rw [hl4]; decide) (by decide) (by rw [hr4b]; decide)).mono ?_
  intro e w5 hL
  obtain ⟨st5, j5, xs5, row5, lv5, rfl, hJ5, hH5, hM5, hr5, hc5, hl5, ht5, hb5, _, _, _⟩ := hL.calm hc4 hJ4 hB4.size
  have hB5 := hB4.trans hb5
  rw [hl4] at hl5
  clear hL hJ4 hH4 hM4 hr4 hc4 hl4 ht4 hB4 hb5 ht4b hr4b
  go_wp2_with fail
  refine (num_any 0 _).mono ?_
  rintro e w' ⟨rfl, rfl⟩
  go_wp2_with fail
  refine (lines_glue hJ5 (by rw [hl5]; decide)).mono ?_
  rintro e w6 ⟨v6, rfl, hO6, hb6⟩
  rw [hl5] at hO6
  obtain ⟨A6, c6, rfl⟩ := own_slice hO6
  have hB6 := hB5.trans (hb6.mono hB5.size)
  clear hO6 hJ5 hH5 hM5 hr5 hc5 hl5 ht5 hB5 hb6
  go_wp2
  go_ret
  exact ⟨rfl, hB6⟩
end Go.Proofs.YtepcagakegbjfaaDoor
/- Rows that the laws hold beside a journal. -/
namespace Go.Proofs.YtepcagakegbjfaaDoor
open Go.RowKit Go.Proofs.YtepcagakegbjfaaDoorW.PrintWords
open Jr (bs lb bs_lb lb_bs bs_app okLine TapeSt addF sealF wipeF fallF newSt Has Mes Out Down Jn Sd sizeL)

/-- A row that is none of a journal's blocks. -/
def Apt (v : Value) (b tb : Nat) (row : Option Nat) (lv : Value) : Prop := ∀ k, v.ownBlock = some k → k ≠ b ∧ k ≠ tb ∧ row ≠ some k ∧ lv.ownBlock ≠ some k
theorem apt_nil (b tb : Nat) (row : Option Nat) (lv : Value) : Apt (.slice none 0 0) b tb row lv := fun k hk => by cases hk
theorem own_move2 {w w' : World} {bas : Nat} {v : Value} {l : List ByteArray} (h : OwnLines w bas v l) (hm : ∀ k, v.ownBlock = some k → w'.heap[k]? = w.heap[k]?) : OwnLines w' bas v l := own_move h hm
theorem held_call {w w' : World} {bas b tb : Nat} {row row' : Option Nat} {lv lv' v : Value} {l : List ByteArray} (ho : OwnLines w bas v l) (ha : Apt v b tb row lv) (hF : FrJ w w' b tb row) (hr : RowOk w row row') (hlv : RowOk w lv.ownBlock lv'.ownBlock) :
    OwnLines w' bas v l ∧ Apt v b tb row' lv' := by
  refine ⟨own_move ho fun k hk => ?_, fun k hk => ?_⟩
  · obtain ⟨h1, h2, h3, _⟩ := ha k hk
    exact hF.block k (own_lt ho k hk) h1 h2 (fun e => h3 e.symm)
  · obtain ⟨h1, h2, h3, h4⟩ := ha k hk
    have hlt := own_lt ho k hk
    refine ⟨h1, h2, fun e => ?_, fun e => ?_⟩
    · rcases hr k e with q | q
      · exact h3 q
      · omega
    · rcases hlv k e with q | q
      · exact h4 q
      · omega
theorem jat_grown {w w' : World} {bas b tb : Nat} {row : Option Nat} {lv v : Value} {st : TapeSt} {j : Jn} (hJ : Jat w bas b tb row lv st j) (hg : w.grownBy w' v.ownBlock) (ha : Apt v b tb row lv) : Jat w' bas b tb row lv st j := by
  have hne : ∀ k, k < w.heap.size → (k = b ∨ k = tb ∨ row = some k ∨ lv.ownBlock = some k) → w'.heap[k]? = w.heap[k]? := fun k hk hc => by
    refine hg.block k hk fun e => ?_
    obtain ⟨h1, h2, h3, h4⟩ := ha k e.symm
    rcases hc with q | q | q | q
    · exact h1 q
    · exact h2 q
    · exact h3 q
    · exact h4 q
  obtain ⟨l1, l2, l3⟩ := hJ.lt
  refine ⟨(hne b l1 (.inl rfl)).trans hJ.block, own_move hJ.own fun k hk => hne k (own_lt hJ.own k hk) (.inr (.inr (.inr hk))), hJ.base, ?_, hJ.ne, hJ.nrow⟩
  obtain ⟨tv, hr, hb, hB, hO⟩ := hJ.tape
  exact ⟨tv, hr, hb, (hne tb l2 (.inr (.inl rfl))).trans hB, own_move hO fun k hk => hne k (own_lt hO k hk) (.inr (.inr (.inl (hr ▸ hk))))⟩
theorem apt_fresh {w : World} {bas b tb : Nat} {row : Option Nat} {lv v : Value} {st : TapeSt} {j : Jn} (hJ : Jat w bas b tb row lv st j) (hv : ∀ k, v.ownBlock = some k → w.heap.size ≤ k) : Apt v b tb row lv := fun k hk => by
  have hk2 := hv k hk
  obtain ⟨l1, l2, l3⟩ := hJ.lt
  refine ⟨by omega, by omega, fun e => ?_, fun e => ?_⟩
  · have := l3 k e; omega
  · have := own_lt hJ.own k e; omega
theorem apt_append {w : World} {bas b tb : Nat} {row : Option Nat} {lv v v' : Value} {st : TapeSt} {j : Jn} (ha : Apt v b tb row lv) (hJ : Jat w bas b tb row lv st j) (hat : v'.ownBlock = v.ownBlock ∨ v'.ownBlock = some w.heap.size) : Apt v' b tb row lv := by
  rcases hat with q | q
  · intro k hk
    exact ha k (q ▸ hk)
  · exact apt_fresh hJ fun k hk => by
      rw [q] at hk
      cases hk
      exact Nat.le_refl _
theorem own_one (W : World) (base : Nat) (s : ByteArray) (hb : base ≤ W.heap.size) : OwnLines (W.alloc (.cells #[.string s] 9)) base (.slice (some ⟨W.heap.size, 0, none⟩) 1 1) [s] :=
  ⟨rfl, .inr ⟨W.heap.size, 1, #[.string s], rfl, hb, World.alloc_heap_new W _, Nat.le_refl _, by unfold maxLen; decide, rfl, rfl⟩⟩
theorem below_grown {a w w' : World} {bas : Nat} {v : Value} {l : List ByteArray} (hb : Below bas a w) (hs : bas ≤ w.heap.size) (ho : OwnLines w bas v l) (hg : w.grownBy w' v.ownBlock) : Below bas a w' :=
  hb.grown hg hs (fun k hk => own_bound ho k hk)
theorem held_append {a w w5 : World} {bas b tb : Nat} {row : Option Nat} {lv v v5 : Value} {st : TapeSt} {j : Jn} {l : List ByteArray} {x : ByteArray} (hJ : Jat w bas b tb row lv st j) (ho : OwnLines w bas v l) (ha : Apt v b tb row lv) (hb : Below bas a w) (hs : bas ≤ w.heap.size)
    (hown : w5.ownsRow bas 9 1 v5 (l.length + 1) (l.map Value.string ++ [Value.string x])) (hg : w.grownBy w5 v.ownBlock) (hat : v5.ownBlock = v.ownBlock ∨ v5.ownBlock = some w.heap.size) :
    OwnLines w5 bas v5 (l ++ [x]) ∧ Apt v5 b tb row lv ∧ Jat w5 bas b tb row lv st j ∧ Below bas a w5 := by
  refine ⟨?_, apt_append ha hJ hat, jat_grown hJ hg ha, below_grown hb hs ho hg⟩
  unfold OwnLines
  rw [List.length_append, List.map_append]
  exact hown
end Go.Proofs.YtepcagakegbjfaaDoor
/- What a row's own condition says of the package-level variables: 'Gl'. -/
namespace Go.Proofs.YtepcagakegbjfaaDoor
open Go.RowKit
set_option linter.unusedVariables false

/-- The plain wrap with both of what a row may hand its contract: its own condition on variables, and the world's shape. -/
theorem handed_both {H : Type} {enc : TypeId × Value → H} {a : Assume} {C : Checked} {os : Os} {f : FuncId} {fn : Func} {s : ChangeSpec} {conds : List PathCond} {apart fresh handsOn again : Bool} {X : World → Array Value → Prop}
    (hX : ∀ (w w' : World) (args : Array Value), w.heap = w'.heap → X w args → X w' args)
    (own : ownKnob C.prog.godebug = none) (started : os.Started) (noInit : C.prog.inits.idxOf? f = none) (hfn : C.prog.funcs[f]? = some fn)
    (witness : ∃ (w : World) (tape : Tape) (i : Input), w.os = os ∧ (w.forCall tape i).Shaped C.prog ∧ i.vars = [] ∧ Input.okWide C.prog (w.forCall tape i) .any w.heap.size f i ∧
      ((s.pre enc C.prog fn conds apart (w.forCall tape i).memory i.args ∧ X (w.forCall tape i).memory i.args) ∧ sizedMet enc C.prog fn (OpenSpec.ofChange s) apart (w.forCall tape i).memory i.args) ∧ a.holds C.prog (lone (Frame.enter C.prog f i.args .normal) [] (w.forCall tape i)))
    (contract : ∀ (W : World) (base : Nat) (args : Array Value) (ds gs : List (DataW H)) (before : List MemPlace),
      (∀ (j : Nat) t v, fn.params[j]? = some t → args[j]? = some v → Value.okWide C.prog W .any base t v) →
      DataW.Whole enc C.prog fn.params.toList s.vars apart W args.toList ds gs before →
      W.ShapedOpen C.prog → X W args →
      Calls C.prog f args W fun e W' => ∃ v, e = .returned v ∧ s.post enc C.prog fn apart fresh handsOn again W args v W') :
    ReturnsInHanded a C os f .any (fun w args => (s.pre enc C.prog fn conds apart w args ∧ X w args) ∧ sizedMet enc C.prog fn (OpenSpec.ofChange s) apart w args) (s.post enc C.prog fn apart fresh handsOn again) := by
  refine returnsInHanded_of_calls own started noInit witness ?_
  intro w tape i _ hshape _ hok hpre _
  obtain ⟨_, _, _, fn', hfn', _, _, _, _, hval⟩ := hok
  obtain rfl : fn' = fn := Option.some.inj (hfn'.symm.trans hfn)
  obtain ⟨⟨⟨ds, gs, before, hw, _⟩, hx⟩, _⟩ := hpre
  refine (contract (w.forCall tape i) w.heap.size i.args ds gs before hval (DataW.Whole.of_heap (w' := w.forCall tape i) (by rfl) hw) hshape (hX _ _ _ (by rfl) hx)).mono ?_
  rintro e W' ⟨v, rfl, hp⟩
  exact ChangeSpec.post_blind hp

theorem star : "*" ++ "errors.errorString" = "*errors.errorString" := by decide
theorem row121 (u : TypeId) (h : Tryd.prog.typeName? 3 u = some "*errors.errorString") : u = 121 :=
  typeName_ptr_named (nm := "errors.errorString") (by rw [star]; kernel_rfl) (by kernel_rfl) (by decide) u (by rw [star]; exact h)
theorem maxRow : ((begin Tryd.prog (fun _ _ => 0) default).world.heap[0]?).bind Obj.row? = some (#[.int .i64 0], 3) := by kernel_rfl
theorem pow_eq : Rows.laid_internal_strconv_uint64pow10 = Lib.tabData (H := Unit) .u64 Lib.pow10Tab := by kernel_rfl
theorem var_lt {P : Program} {W : World} {n : String} {g : Nat} {a : Array Value} (hg : P.globalNamed n = some g) (h : W.var? P n = some a) : g < W.heap.size := by
  unfold World.var? at h
  rw [hg] at h
  cases hh : W.heap[g]? with
  | none => simp [hh] at h
  | some o => exact (Array.getElem?_eq_some_iff.1 hh).1
abbrev laidL : List (String × DataW Unit) := [("math/bits.deBruijn32tab", Rows.laid_math_bits_deBruijn32tab), ("math/bits.deBruijn64tab", Rows.laid_math_bits_deBruijn64tab), ("internal/strconv.uint64pow10", Rows.laid_internal_strconv_uint64pow10), ("unicode/utf8.acceptRanges", Rows.laid_unicode_utf8_acceptRanges), ("strconv.ErrRange", Rows.laid_strconv_ErrRange), ("strconv.ErrSyntax", Rows.laid_strconv_ErrSyntax), ("unicode/utf8.first", Rows.laid_unicode_utf8_first)]
theorem gl_of {W : World} (hL : laidMetH Tryd.prog laidL W) (hs : W.ShapedOpen Tryd.prog) : Gl W := by
  rw [MakeChecks.laidMetH_plain _ _ _ (by kernel_rfl)] at hL
  have h2 := hL.tail
  have h3 := h2.tail
  have h4 := h3.tail
  have h5 := h4.tail
  have h6 := h5.tail
  obtain ⟨a, s, hv, _⟩ := laid_sentinel h6 (show Tryd.prog.globalNamed "strconv.ErrSyntax" = some 1 by kernel_rfl) (show (Tryd.prog.globals[1]?).map (·.type) = some 74 by kernel_rfl) Tryd.underlying74 row121 Tryd.underlying121 Tryd.underlying123 rfl rfl Tryd.underlying9 (by kernel_rfl) (by kernel_rfl)
  have hc := World.var?_cell (show Tryd.prog.globalNamed "strconv.ErrSyntax" = some 1 by kernel_rfl) hv 0
  obtain ⟨b, t, hv2, _⟩ := laid_sentinel h5 (show Tryd.prog.globalNamed "strconv.ErrRange" = some 2 by kernel_rfl) (show (Tryd.prog.globals[2]?).map (·.type) = some 74 by kernel_rfl) Tryd.underlying74 row121 Tryd.underlying121 Tryd.underlying123 rfl rfl Tryd.underlying9 (by kernel_rfl) (by kernel_rfl)
  have hc2 := World.var?_cell (show Tryd.prog.globalNamed "strconv.ErrRange" = some 2 by kernel_rfl) hv2 0
  refine ⟨?_, ⟨_, by simpa using hc, .inr ⟨_, _, rfl⟩⟩, ⟨_, by simpa using hc2, .inr ⟨_, _, rfl⟩⟩, ?_, ?_⟩
  · exact cell_of_shapedOpen_int hs (by decide +kernel) maxRow rfl (by kernel_rfl) (by kernel_rfl) Tryd.underlying3
  · rw [pow_eq] at h3
    exact Lib.tabIs_of_head (show Tryd.prog.globalNamed "internal/strconv.uint64pow10" = some 3 by kernel_rfl) (t := 130) (e := 84) (n := 20) (by kernel_rfl) Tryd.underlying130 Tryd.underlying84 (by kernel_rfl) (by kernel_rfl) h3
  · obtain ⟨ps, ⟨g0, t0, cs0, f0, p0, q0, hg0, ht0, hv0, _⟩, _⟩ := h2
    have := var_lt hg0 hv0
    have e : Tryd.prog.globalNamed "math/bits.deBruijn64tab" = some 7 := by kernel_rfl
    rw [e] at hg0
    obtain rfl := Option.some.inj hg0
    exact this
theorem u8_of {x : Int} (h : (Lit.int .u8 x).wf = true) : U8 x := by
  have h2 : IntKind.u8.min ≤ x ∧ x ≤ IntKind.u8.max := by simpa [Lit.wf] using h
  have e1 : IntKind.u8.min = 0 := rfl
  have e2 : IntKind.u8.max = 255 := rfl
  rw [e1, e2] at h2
  exact ⟨h2.1, by omega⟩
end Go.Proofs.YtepcagakegbjfaaDoor
