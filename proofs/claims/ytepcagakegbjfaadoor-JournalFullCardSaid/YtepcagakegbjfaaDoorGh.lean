/- What Save and Note come to on a tape that does not fall, whatever its room. -/
import Derived.Test.YtepcagakegbjfaaDoorGf
import Derived.Test.YtepcagakegbjfaaDoorGg
namespace Go.Proofs.YtepcagakegbjfaaDoor.Jr
open Go

/-- A journal whose side has its lines and nothing else. -/
structure Cl (st : TapeSt) (j : Jn) : Prop where
  has : Has st j (j.lines.map chunk)
  crash : st.crash = 0
  calls : 0 ≤ st.calls
theorem Cl.txt_len {st : TapeSt} {j : Jn} (h : Cl st j) : (txt st j.side).length ≤ 26 + sizeL j.lines := by
  have hf := frames_len j.lines h.has.ok
  have t0 := h.has.turn0
  rcases h.has.mine with ⟨h1, h2, h3, h4⟩ | ⟨t, n, h1, h2, h3, h4, h5, h6⟩
  · rw [h3, h4]; exact Nat.zero_le _
  · rw [h6, List.length_append]
    have hh := head_len (t := t) (n := n) h3 (by omega)
    have e : bodyOf (j.lines.map chunk) = frames j.lines := rfl
    rw [e]
    omega
theorem Cl.zero {st : TapeSt} {j : Jn} (h : Cl st j) (ht : j.turn = 0) : (txt st j.side).length = 0 := by
  rcases h.has.mine with ⟨h1, h2, h3, h4⟩ | ⟨t, n, h1, h2, _⟩
  · rw [h3, h4]; rfl
  · omega
/-- What 'anew' comes to here. -/
inductive AnewC (st : TapeSt) (j : Jn) (l : List S) : TapeSt × Jn × Int → Prop
  | ok (st') : Cl st' (anewJ j l) → st'.room = st.room → AnewC st j l (st', anewJ j l, 0)
  | full (st') : st.room < ((txt st j.side).length : Int) + 26 + sizeL l → Cl st' j → st'.room = st.room → (txt st' j.side).length = (txt st j.side).length → AnewC st j l (st', j, 15)
theorem anew_c {st : TapeSt} {j : Jn} {l : List S} (h : Cl st j) (hl : ∀ s ∈ l, okLine s = true) (ht : j.turn ≤ 1000000) (hs : sizeL l ≤ 1000000) : AnewC st j l (anewF st j l) := by
  have hfl := frames_len l hl
  have t0 := h.has.turn0
  have hA := anew_all h.has hl (by omega) (by omega)
  have hcm := anew_calm h.has.side h.has.down h.crash h.calls l
  have hh := headI_len (t := j.turn + 1) (n := (frames l).length) (by omega) (by omega) (by omega)
  cases hr : anewF st j l with
  | mk st' r =>
    rw [hr] at hA hcm
    cases hA with
    | ok st' a1 a2 a3 a4 => exact .ok _ ⟨a1, by rw [a3, h.crash], by rw [a4]; have := h.calls; omega⟩ a2
    | full st' a1 a2 a3 a4 a5 a6 a7 =>
      refine .full _ ?_ ⟨a2, by rw [a4, h.crash], by rw [a5]; have := h.calls; omega⟩ a3 (by rw [a7])
      unfold newLen at a1
      omega
    | fell st' j' a1 => exact absurd rfl hcm
/-- What a call comes to: done, or nothing is changed and there is little room. -/
inductive OutC (st st' : TapeSt) (j j' : Jn) (L : List S) (sz : Nat) (code : Int) : Prop
  | ok (h0 : code = 0) (h : Cl st' j') (hl : j'.lines = L) (ht : j'.turn ≤ j.turn + 2) (hr : st'.room = st.room)
  | full (h0 : code = 15) (h : Cl st' j') (hl : j'.lines = j.lines) (ht : j'.turn ≤ j.turn + 2) (hr : st'.room = st.room) (hf : st.room < 2 * ((sizeL j.lines : Int) + sz + 200))
theorem save_c {st : TapeSt} {j : Jn} {l : List S} (h : Cl st j) (hl : ∀ s ∈ l, okLine s = true) (ht : j.turn ≤ 900000) (hs : sizeL l ≤ 1000000) (hsj : sizeL j.lines ≤ 1000000) :
    OutC st (saveF st j l).1 j (saveF st j l).2.1 l (sizeL l) (saveF st j l).2.2 := by
  have hg := gate_has h.has hl
  have t1 := h.txt_len
  unfold saveF
  rw [if_neg (by rw [hg]; decide)]
  simp only
  have hA := anew_c h hl (by omega) hs
  cases hr : anewF st j l with
  | mk st1 r1 =>
    rw [hr] at hA
    cases hA with
    | ok st1 a1 a2 =>
      rw [if_pos (.inl (show (0 : Int) ≠ 15 by decide))]
      exact .ok rfl a1 rfl (by show j.turn + 1 ≤ _; omega) a2
    | full st1 a1 a2 a3 a4 =>
      by_cases hz : j.turn = 0
      · rw [if_pos (.inr hz)]
        have := h.zero hz
        exact .full rfl a2 rfl (by show j.turn ≤ j.turn + 2; omega) a3 (by omega)
      · rw [if_neg (by simp [hz])]
        have hB := anew_c a2 h.has.ok (by omega) hsj
        have t2 := a2.txt_len
        cases hr2 : anewF st1 j j.lines with
        | mk st2 r2 =>
          rw [hr2] at hB
          cases hB with
          | ok st2 b1 b2 =>
            rw [if_neg (by simp)]
            have t3 := b1.txt_len
            have hC := anew_c b1 hl (by show j.turn + 1 ≤ _; omega) hs
            cases hr3 : anewF st2 (anewJ j j.lines) l with
            | mk st3 r3 =>
              rw [hr3] at hC
              cases hC with
              | ok st3 c1 c2 => exact .ok rfl c1 rfl (by show j.turn + 1 + 1 ≤ _; omega) (by rw [c2, b2, a3])
              | full st3 c1 c2 c3 c4 =>
                refine .full rfl c2 rfl (by show j.turn + 1 ≤ _; omega) (by rw [c3, b2, a3]) ?_
                have e : (anewJ j j.lines).lines = j.lines := rfl
                rw [e] at t3
                rw [b2, a3] at c1
                omega
          | full st2 b1 b2 b3 b4 =>
            rw [if_pos (show (15 : Int) ≠ 0 by decide)]
            refine .full rfl b2 rfl (by show j.turn ≤ j.turn + 2; omega) (by rw [b3, a3]) ?_
            rw [a3] at b1
            omega
theorem behind_clean {st st' : TapeSt} {j : Jn} {s : S} (h : Cl st j) (h' : Has st' (behindJ j s) (j.lines.map chunk ++ [chunk s])) : Has st' (behindJ j s) ((behindJ j s).lines.map chunk) := by
  have e : (behindJ j s).lines.map chunk = j.lines.map chunk ++ [chunk s] := by
    show (j.lines ++ [s]).map chunk = _
    rw [List.map_append]
    rfl
  rw [e]
  exact h'
/-- What 'behind' comes to here. -/
inductive BehC (st : TapeSt) (j : Jn) (s : S) : TapeSt × Jn × Int → Prop
  | ok (st') : Cl st' (behindJ j s) → st'.room = st.room → BehC st j s (st', behindJ j s, 0)
  | full : st.room < ((txt st j.side).length : Int) + (frame s).length + (view st (1 - j.side)).length → BehC st j s (st, j, 15)
theorem behind_c {st : TapeSt} {j : Jn} {s : S} (h : Cl st j) (hs : okLine s = true) (ht : j.turn ≠ 0) (hsj : sizeL j.lines ≤ 1000000) : BehC st j s (behindF st j s) := by
  have hf := frames_len j.lines h.has.ok
  have hsl := (okLine_len hs).1
  have hch := chunk_len (s := s) (by omega)
  have hA := behind_all h.has hs ht (by rw [show bodyOf (j.lines.map chunk) = frames j.lines from rfl]; omega)
  have hcm := behind_calm h.has.side h.has.down h.crash h.calls s
  cases hr : behindF st j s with
  | mk st' r =>
    rw [hr] at hA hcm
    cases hA with
    | ok st' a1 a2 a3 a4 => exact .ok _ ⟨behind_clean h a1, by rw [a3, h.crash], by rw [a4]; have := h.calls; omega⟩ a2
    | full a1 => exact .full a1
    | fell st' j' a1 => exact absurd rfl hcm
theorem note_c {st : TapeSt} {j : Jn} {s : S} (h : Cl st j) (hs : okLine s = true) (ht : j.turn ≤ 900000) (hsj : sizeL j.lines ≤ 900000) :
    OutC st (noteF st j s).1 j (noteF st j s).2.1 (j.lines ++ [s]) (sizeL [s]) (noteF st j s).2.2 := by
  have hl1 : ∀ x ∈ [s], okLine x = true := fun x hx => by rw [List.mem_singleton.1 hx]; exact hs
  have hg := gate_has h.has hl1
  have t1 := h.txt_len
  have hsl := (okLine_len hs).1
  have hfr := frame_len (s := s) (by omega)
  have e1 : sizeL [s] = s.length + 8 := rfl
  unfold noteF
  rw [if_neg (by rw [hg]; decide)]
  by_cases hz : j.turn = 0
  · rw [if_pos hz]
    have hz2 := h.zero hz
    have hl0 := has_turn_lines h.has hz
    have hA := anew_c h hl1 (by omega) (by omega)
    cases hr : anewF st j [s] with
    | mk st1 r1 =>
      rw [hr] at hA
      cases hA with
      | ok st1 a1 a2 => exact .ok rfl a1 (by rw [hl0]; rfl) (by show j.turn + 1 ≤ _; omega) a2
      | full st1 a1 a2 a3 a4 => exact .full rfl a2 rfl (by show j.turn ≤ j.turn + 2; omega) a3 (by omega)
  · rw [if_neg hz]
    simp only
    have hA := behind_c h hs hz (by omega)
    cases hr : behindF st j s with
    | mk st1 r1 =>
      rw [hr] at hA
      cases hA with
      | ok st1 a1 a2 =>
        rw [if_pos (show (0 : Int) ≠ 15 by decide)]
        exact .ok rfl a1 rfl (by show j.turn ≤ _; omega) a2
      | full a1 =>
        rw [if_neg (by simp)]
        have hwp := wipe_ok h.has.side.flip h.has.down (by rw [h.crash]; have := h.calls; omega)
        rw [hwp]
        simp only [ne_eq, not_true_eq_false, if_false]
        have hw : Cl (putOk st (wipeC (1 - j.side))) j := ⟨h.has.wiped_has, h.crash, by show 0 ≤ st.calls + 1; have := h.calls; omega⟩
        obtain ⟨w1, w2⟩ := h.has.wiped
        have w3 := hw.has.vmine
        have hrm : (putOk st (wipeC (1 - j.side))).room = st.room := rfl
        have tw := hw.txt_len
        generalize putOk st (wipeC (1 - j.side)) = sw at *
        have hB := behind_c hw hs hz (by omega)
        cases hr2 : behindF sw j s with
        | mk st2 r2 =>
          rw [hr2] at hB
          cases hB with
          | ok st2 b1 b2 =>
            rw [if_pos (show (0 : Int) ≠ 15 by decide)]
            exact .ok rfl b1 rfl (by show j.turn ≤ _; omega) (by rw [b2, hrm])
          | full b1 =>
            rw [if_neg (by simp)]
            have hok : ∀ x ∈ j.lines ++ [s], okLine x = true := fun x hx => by
              rcases List.mem_append.1 hx with q | q
              · exact h.has.ok x q
              · exact hl1 x q
            have hC := anew_c hw hok (by omega) (by rw [sizeL_app]; omega)
            cases hr3 : anewF sw j (j.lines ++ [s]) with
            | mk st3 r3 =>
              rw [hr3] at hC
              cases hC with
              | ok st3 c1 c2 => exact .ok rfl c1 rfl (by show j.turn + 1 ≤ _; omega) (by rw [c2, hrm])
              | full st3 c1 c2 c3 c4 =>
                refine .full rfl c2 rfl (by show j.turn ≤ j.turn + 2; omega) (by rw [c3, hrm]) ?_
                rw [sizeL_app] at c1
                omega
end Go.Proofs.YtepcagakegbjfaaDoor.Jr
/- Save, whatever the room. -/
namespace Go.Proofs.YtepcagakegbjfaaDoor
open Go.RowKit Go.Proofs.YtepcagakegbjfaaDoorW.PrintWords
open Jr (bs lb bs_lb lb_bs bs_app okLine TapeSt addF sealF wipeF fallF newSt Has Mes Out Down Jn Sd sizeL Cl AnewC OutC BehC)

/-- anew, in plain words. -/
theorem anew_glue (bas b tb : Nat) (row : Option Nat) (lv : Value) (st : TapeSt) (j : Jn) (B c : Nat) (A : Option Addr) (cc : Nat) (ls : List ByteArray) (w : World) (hg : Gl w) (h8 : 8 ≤ bas) (hbs : bas ≤ w.heap.size)
    (hJ : Jat w bas b tb row lv st j) (hH : Cl st j) (hM : Mes st B c) (hB : B ≤ 900000) (hc : c < 90000) (hr : st.room ≤ 1000000) (ht : j.turn ≤ 1000000)
    (hls : LinesAt w (.slice A ls.length cc) ls) (hA : ∀ a, A = some a → a.block ≠ b ∧ a.block ≠ tb ∧ row ≠ some a.block) (hln : ls.length ≤ 1000) (hok : ∀ s ∈ ls, okLine (lb s) = true) (hsz : sizeL (ls.map lb) ≤ 90000) (r : TapeSt × Jn × Int) (hrr : Jr.anewF st j (ls.map lb) = r) :
    Calls Tryd.prog 26 #[.pointer (some ⟨b, 0, none⟩), .slice A ls.length cc] w fun e w' => e = .returned (.int .i64 r.2.2) ∧ ∃ row' lv', Jat w' bas b tb row' lv' r.1 r.2.1 ∧ RowOk w row row' ∧ FrJ w w' b tb row ∧ RowOk w lv.ownBlock lv'.ownBlock ∧ Mes r.1 (B + 26 + sizeL (ls.map lb)) (c + 3) := by
  have hokl : ∀ s ∈ ls.map lb, okLine s = true := by
    intro s hs
    obtain ⟨x, hx, rfl⟩ := List.mem_map.1 hs
    exact hok x hx
  have heq := anewB_eq st j.side j.turn (j.lines.map bs) j.dead ls
  rw [map_lb_bs] at heq
  have hj : (⟨j.side, j.turn, j.lines, j.dead⟩ : Jn) = j := rfl
  rw [hj] at heq
  have hsd : 0 ≤ j.side ∧ j.side ≤ 1 := by rcases hH.has.side with e | e <;> omega
  have t0 := hH.has.turn0
  have hms := hM.size
  have hfl := Jr.frames_len _ hokl
  have hh := Jr.headI_len (t := j.turn + 1) (n := (Jr.frames (ls.map lb)).length) (by omega) (by omega) (by omega)
  have hnl : (Jr.newTxt j (ls.map lb)).length ≤ 26 + sizeL (ls.map lb) := by
    unfold Jr.newTxt
    rw [List.length_append]
    omega
  have hM' := (hM.anewF hH.has.side hH.has.down (ls.map lb)).mono (B' := B + 26 + sizeL (ls.map lb)) (c' := c + 3) (by omega) (Nat.le_refl _)
  refine (anew_any bas b tb row lv st j.side j.turn (j.lines.map bs) j.dead A cc ls w hg h8 hbs hJ (mes_ok hM (by omega) (by omega)) hsd ⟨t0, by omega⟩ hls hA hln (fun s hs => ?_) (by omega) (wipe_mes hM hH.has.down hH.has.side.flip (by omega) (by omega))
    (wipe_add_ok hM hH.has.down hH.has.side.flip (by omega) (by omega) hr) _ rfl).mono ?_
  · have := (Jr.okLine_len (hok s hs)).1
    rw [Jr.lb_length] at this
    omega
  · rintro e w' ⟨rfl, row', lv', h1, h2, h3, h4⟩
    rw [hrr] at heq hM'
    rw [heq] at hM' ⊢
    exact ⟨rfl, row', lv', by unfold Jat; simp only; rw [map_bs_lb]; exact h1, h2, h3, h4, hM'⟩
/-- What a call leaves behind. -/
def LeftC (w : World) (bas b tb : Nat) (row : Option Nat) (lv : Value) (st : TapeSt) (j : Jn) (L : List Jr.S) (sz B c : Nat) (e : Ending) (w' : World) : Prop :=
  ∃ st' j' code row' lv', e = .returned (.int .i64 code) ∧ Jat w' bas b tb row' lv' st' j' ∧ RowOk w row row' ∧ FrJ w w' b tb row ∧ RowOk w lv.ownBlock lv'.ownBlock ∧ OutC st st' j j' L sz code ∧ Mes st' B c
theorem own_apart {w : World} {bas b tb : Nat} {row : Option Nat} {lv : Value} {st : TapeSt} {j : Jn} (hJ : Jat w bas b tb row lv st j) : ∀ q, lv.ownBlock = some q → q ≠ b ∧ q ≠ tb ∧ row ≠ some q := by
  intro q hq
  obtain ⟨tv, hr, _, hB, hO⟩ := hJ.tape
  refine ⟨fun e => own_ne hJ.own hJ.block (by decide) (by rw [← e]; exact hq.symm), fun e => own_ne hJ.own hB (by decide) (by rw [← e]; exact hq.symm), fun e => ?_⟩
  rcases own_type_ne hJ.own hO (by decide) with h | h
  · rw [hq] at h; cases h
  · exact h (by rw [hq, hr, e])
set_option maxRecDepth 100000 in
set_option maxHeartbeats 1600000 in
theorem save_cglue (bas b tb : Nat) (row : Option Nat) (lv : Value) (st : TapeSt) (j : Jn) (B c : Nat) (A : Option Addr) (cc : Nat) (ls : List ByteArray) (w : World) (hg : Gl w) (h8 : 8 ≤ bas) (hbs : bas ≤ w.heap.size)
    (hJ : Jat w bas b tb row lv st j) (hH : Cl st j) (hM : Mes st B c) (hB : B ≤ 500000) (hc : c < 50000) (hr : st.room ≤ 1000000) (ht : j.turn ≤ 500000)
    (hls : LinesAt w (.slice A ls.length cc) ls) (hA : ∀ a, A = some a → a.block ≠ b ∧ a.block ≠ tb ∧ row ≠ some a.block) (hAlt : ∀ a, A = some a → a.block < w.heap.size) (hln : ls.length ≤ 1000) (hok : ∀ s ∈ ls, okLine (lb s) = true) (hsz : sizeL (ls.map lb) ≤ 50000) (hlj : j.lines.length ≤ 1000) (hszj : sizeL j.lines ≤ 50000) :
    Calls Tryd.prog 15 #[.pointer (some ⟨b, 0, none⟩), .slice A ls.length cc] w (LeftC w bas b tb row lv st j (ls.map lb) (sizeL (ls.map lb)) (B + 78 + 2 * sizeL (ls.map lb) + sizeL j.lines) (c + 9)) := by
  have hokl : ∀ s ∈ ls.map lb, okLine s = true := by
    intro s hs
    obtain ⟨x, hx, rfl⟩ := List.mem_map.1 hs
    exact hok x hx
  have hout := Jr.save_c hH hokl (by omega) (by omega) (by omega)
  have hgz : gateB j.dead ls = 0 := by rw [hH.has.dead]; exact gateB_zero hok
  have k4 : w.cell? ⟨b, 4, none⟩ = some (.bool j.dead) := blk_cell hJ.block 4
  have h25 := jgate_any b j.dead A ls cc w k4 (by omega) hls (fun s hs => by
    have := (Jr.okLine_len (hok s hs)).1
    rw [Jr.lb_length] at this
    omega)
  have H25 : Calls Tryd.prog 25 #[.pointer (some ⟨b, 0, none⟩), .slice A ls.length cc] w fun e w' => e = .returned (.int .i64 0) ∧ Below w.heap.size w w' := by
    rw [← hgz]; exact h25
  have hA1 := Jr.anew_c hH hokl (by omega) (by omega)
  have hgate := Jr.gate_has hH.has hokl
  unfold Jr.saveF at hout
  rw [if_neg (by rw [hgate]; decide)] at hout
  simp only at hout
  have HOUT := Lib.hid hout
  have HA1 := Lib.hid hA1
  have HJ := Lib.hid hJ
  have HLS := Lib.hid hls
  have HAA := Lib.hid hA
  have HALT := Lib.hid hAlt
  have HOK := Lib.hid hok
  have HM := Lib.hid hM
  clear h25 k4 hJ hls hA hAlt hok hout hA1 hM hgz hgate hokl
  go_enter Tryd.func15, Tryd.ntmps15
  go_wp2_with fail
  refine H25.mono ?_
  rintro e w1 ⟨rfl, hb⟩
  clear H25
  have hJ1 := HJ.out.below hb
  have hls1 := HLS.out.below hb
  have hg1 := hg.below hb hg.many
  have hs1 : bas ≤ w1.heap.size := Nat.le_trans hbs hb.size
  go_wp2_with fail
  obtain ⟨r1, hr1⟩ : ∃ r1, Jr.anewF st j (ls.map lb) = r1 := ⟨_, rfl⟩
  refine (anew_glue bas b tb row lv st j B c A cc ls w1 hg1 h8 hs1 hJ1 hH HM.out (by omega) (by omega) hr (by omega) hls1 HAA.out hln HOK.out (by omega) r1 hr1).mono ?_
  rintro e w2 ⟨rfl, row2, lv2, hJ2, hR2, hF2, hV2, hM2⟩
  have ho := HOUT.out
  have hA1 := HA1.out
  rw [hr1] at ho hA1
  have hR02 : RowOk w row row2 := fun k hk => (hR2 k hk).imp id (Nat.le_trans hb.size)
  have hV02 : RowOk w lv.ownBlock lv2.ownBlock := fun k hk => (hV2 k hk).imp id (Nat.le_trans hb.size)
  have hF02 : FrJ w w2 b tb row := (FrJ.of_below hb).trans hF2 (fun _ h => .inl h)
  have hs2 : bas ≤ w2.heap.size := Nat.le_trans hbs hF02.size
  clear hR2 hV2 hF2 HOUT HA1
  cases hA1 with
  | ok st1 a1 a2 =>
    rw [if_pos (.inl (show (0 : Int) ≠ 15 by decide))] at ho
    have HL := Lib.hid (show LeftC w bas b tb row lv st j (ls.map lb) (sizeL (ls.map lb)) (B + 78 + 2 * sizeL (ls.map lb) + sizeL j.lines) (c + 9) (.returned (.int .i64 0)) w2 from ⟨st1, _, 0, row2, lv2, rfl, hJ2, hR02, hF02, hV02, ho, hM2.mono (by omega) (by omega)⟩)
    clear hJ2 hR02 hF02 hV02 ho hM2
    go_wp2
    go_ret
    exact HL.out
  | full st1 a1 a2 a3 a4 =>
    have k2 : w2.cell? ⟨b, 2, none⟩ = some (.int .i64 j.turn) := blk_cell hJ2.block 2
    by_cases hz : j.turn = 0
    · rw [if_pos (.inr hz)] at ho
      have HL := Lib.hid (show LeftC w bas b tb row lv st j (ls.map lb) (sizeL (ls.map lb)) (B + 78 + 2 * sizeL (ls.map lb) + sizeL j.lines) (c + 9) (.returned (.int .i64 15)) w2 from ⟨st1, _, 15, row2, lv2, rfl, hJ2, hR02, hF02, hV02, ho, hM2.mono (by omega) (by omega)⟩)
      rw [hz] at k2
      clear hJ2 hR02 hF02 hV02 ho hM2 hr1
      go_wp2
      go_ret
      exact HL.out
    · rw [if_neg (by simp [hz])] at ho
      have hzb : (j.turn == 0) = false := by simpa using hz
      have hap := own_apart hJ2
      have hOw : OwnLines w2 bas lv2 (j.lines.map bs) := hJ2.own
      have k3 : w2.cell? ⟨b, 3, none⟩ = some lv2 := blk_cell hJ2.block 3
      have hmb : (j.lines.map bs).map lb = j.lines := map_lb_bs _
      have hlb : (j.lines.map bs).length = j.lines.length := List.length_map ..
      generalize hLB : j.lines.map bs = LB at *
      have HMB := Lib.hid hmb
      have HJ2 := Lib.hid hJ2
      have HA2 := Lib.hid a2
      clear hLB hmb
      obtain ⟨A2, c2, rfl⟩ := own_slice hOw
      have HAP := Lib.hid hap
      have HLJ := Lib.hid hOw.lines
      have hg2 : Gl w2 := hg.frj hF02 (Nat.le_trans h8 HJ2.out.base) (Nat.le_trans h8 HJ2.out.tape.low.1) (fun q e => by have := HJ.out.tape.low.2 q e; omega)
      obtain ⟨r2, hr2⟩ : ∃ r2, Jr.anewF st1 j (LB.map lb) = r2 := ⟨_, rfl⟩
      have H26 := Lib.hid (anew_glue bas b tb row2 _ st1 j _ _ A2 c2 LB w2 hg2 h8 hs2 HJ2.out HA2.out hM2 (by omega) (by omega) (by rw [a3]; exact hr) (by omega) HLJ.out (fun a e => HAP.out a.block (by rw [e]; rfl)) (by omega) (fun s hs => HA2.out.has.ok _ (by rw [← HMB.out]; exact List.mem_map_of_mem hs)) (by rw [HMB.out]; omega) r2 hr2)
      have HO := Lib.hid ho
      clear hJ2 a2 hap hOw ho hM2 hlb
      go_wp2_with fail
      refine H26.out.mono ?_
      rintro e w3 ⟨rfl, row3, lv3, hJ3, hR3, hF3, hV3, hM3⟩
      have ho := HO.out
      rw [HMB.out] at hr2 hM3
      try simp only at ho
      rw [hr2] at ho
      have hB2 := Jr.anew_c HA2.out HA2.out.has.ok (by omega) (by omega)
      rw [hr2] at hB2
      have hR03 : RowOk w row row3 := RowOk.trans hR02 hR3 hF02.size
      have hV03 : RowOk w lv.ownBlock lv3.ownBlock := RowOk.trans hV02 hV3 hF02.size
      have hF03 : FrJ w w3 b tb row := hF02.trans hF3 hR02
      have hs3 : bas ≤ w3.heap.size := Nat.le_trans hbs hF03.size
      have hg3 : Gl w3 := hg.frj hF03 (Nat.le_trans h8 HJ.out.base) (Nat.le_trans h8 HJ.out.tape.low.1) (fun q e => by have := HJ.out.tape.low.2 q e; omega)
      clear hR3 hV3 hF3 H26 HO hR02 hV02 hF02 HJ2 HLJ HAP k2 k3 hg2
      cases hB2 with
      | ok st2 b1 b2 =>
        rw [if_neg (by simp)] at ho
        have hls3 := HLS.out.frj hF03 HAA.out
        have hA3 : ∀ a, A = some a → a.block ≠ b ∧ a.block ≠ tb ∧ row3 ≠ some a.block := fun a e => ⟨(HAA.out a e).1, (HAA.out a e).2.1, fun e2 => by
          rcases hR03 _ e2 with q | q
          · exact (HAA.out a e).2.2 q
          · have := HALT.out a e; omega⟩
        obtain ⟨r3, hr3⟩ : ∃ r3, Jr.anewF st2 (Jr.anewJ j j.lines) (ls.map lb) = r3 := ⟨_, rfl⟩
        have H26 := Lib.hid (anew_glue bas b tb row3 _ st2 _ _ _ A cc ls w3 hg3 h8 hs3 hJ3 b1 hM3 (by omega) (by omega) (by rw [b2, a3]; exact hr) (by show j.turn + 1 ≤ _; omega) hls3 hA3 hln HOK.out (by omega) r3 hr3)
        rw [hr3] at ho
        have HO := Lib.hid ho
        clear ho hJ3 hM3 hls3 hA3 b1
        go_wp2_with fail
        refine H26.out.mono ?_
        rintro e w4 ⟨rfl, row4, lv4, hJ4, hR4, hF4, hV4, hM4⟩
        have HL := Lib.hid (show LeftC w bas b tb row lv st j (ls.map lb) (sizeL (ls.map lb)) (B + 78 + 2 * sizeL (ls.map lb) + sizeL j.lines) (c + 9) (.returned (.int .i64 r3.2.2)) w4 from ⟨_, _, _, row4, lv4, rfl, hJ4, RowOk.trans hR03 hR4 hF03.size, hF03.trans hF4 hR03, RowOk.trans hV03 hV4 hF03.size, HO.out, hM4.mono (by omega) (by omega)⟩)
        clear hJ4 hR4 hF4 hV4 hM4 HO H26 hR03 hV03 hF03
        go_wp2
        go_ret
        exact HL.out
      | full st2 b1 b2 b3 b4 =>
        rw [if_pos (show (15 : Int) ≠ 0 by decide)] at ho
        have HL := Lib.hid (show LeftC w bas b tb row lv st j (ls.map lb) (sizeL (ls.map lb)) (B + 78 + 2 * sizeL (ls.map lb) + sizeL j.lines) (c + 9) (.returned (.int .i64 15)) w3 from ⟨st2, _, 15, row3, lv3, rfl, hJ3, hR03, hF03, hV03, ho, hM3.mono (by omega) (by omega)⟩)
        clear hJ3 hR03 hF03 hV03 ho hM3
        go_wp2
        go_ret
        exact HL.out
end Go.Proofs.YtepcagakegbjfaaDoor
/- Note, whatever the room. -/
namespace Go.Proofs.YtepcagakegbjfaaDoor
open Go.RowKit Go.Proofs.YtepcagakegbjfaaDoorW.PrintWords
open Jr (bs lb bs_lb lb_bs bs_app okLine TapeSt addF sealF wipeF fallF newSt Has Mes Out Down Jn Sd sizeL Cl AnewC OutC BehC)

/-- behind, in plain words. -/
theorem behind_glue (bas b tb : Nat) (row : Option Nat) (lv : Value) (st : TapeSt) (j : Jn) (B c : Nat) (s : ByteArray) (w : World) (hg : Gl w) (hbs : bas ≤ w.heap.size)
    (hJ : Jat w bas b tb row lv st j) (hH : Cl st j) (hM : Mes st B c) (hB : B ≤ 900000) (hc : c < 90000) (hr : st.room ≤ 1000000) (hlj : j.lines.length ≤ 1000) (hok : okLine (lb s) = true) (r : TapeSt × Jn × Int) (hrr : Jr.behindF st j (lb s) = r) :
    Calls Tryd.prog 28 #[.pointer (some ⟨b, 0, none⟩), .string s] w fun e w' => e = .returned (.int .i64 r.2.2) ∧ ∃ row' lv', Jat w' bas b tb row' lv' r.1 r.2.1 ∧ RowOk w row row' ∧ FrJ w w' b tb row ∧ RowOk w lv.ownBlock lv'.ownBlock ∧ Mes r.1 (B + 26 + sizeL [lb s]) (c + 3) := by
  have heq := behindB_eq st j.side j.turn (j.lines.map bs) j.dead s
  rw [map_lb_bs] at heq
  have hj : (⟨j.side, j.turn, j.lines, j.dead⟩ : Jn) = j := rfl
  rw [hj] at heq
  have hms := hM.size
  have hsl := (Jr.okLine_len hok).1
  have hfr := Jr.frame_len (s := lb s) (by omega)
  have e1 : sizeL [lb s] = (lb s).length + 8 := rfl
  have hsz : s.size ≤ 1000 := by rw [Jr.lb_length] at hsl; exact hsl
  have hM' := (hM.behindF hH.has.side hH.has.down (lb s)).mono (B' := B + 26 + sizeL [lb s]) (c' := c + 3) (by omega) (by omega)
  refine (behind_any bas b tb row lv st j.side j.turn (j.lines.map bs) j.dead s w hg hbs hJ (mes_ok hM (by omega) (by omega)) (by omega) (add_mes hM hH.has.side (by omega) (by omega) hr _) (by rw [List.length_map]; omega) (by omega)).mono ?_
  rintro e w' ⟨rfl, row', lv', h1, h2, h3, h4⟩
  rw [hrr] at heq hM'
  rw [heq] at hM' ⊢
  exact ⟨rfl, row', lv', by unfold Jat; simp only; rw [map_bs_lb]; exact h1, h2, h3, h4, hM'⟩
theorem FrJ.of_tape {w w' : World} {b tb : Nat} {row : Option Nat} (h : Fr w w' tb row) : FrJ w w' b tb row := FrJ.of_fr h
set_option maxRecDepth 100000 in
set_option maxHeartbeats 1600000 in
theorem note_cglue (bas b tb : Nat) (row : Option Nat) (lv : Value) (st : TapeSt) (j : Jn) (B c : Nat) (s : ByteArray) (w : World) (hg : Gl w) (h8 : 8 ≤ bas) (hbs : bas ≤ w.heap.size)
    (hJ : Jat w bas b tb row lv st j) (hH : Cl st j) (hM : Mes st B c) (hB : B ≤ 500000) (hc : c < 50000) (hr : st.room ≤ 1000000) (ht : j.turn ≤ 500000)
    (hok : okLine (lb s) = true) (hlj : j.lines.length ≤ 900) (hszj : sizeL j.lines ≤ 50000) :
    Calls Tryd.prog 17 #[.pointer (some ⟨b, 0, none⟩), .string s] w (LeftC w bas b tb row lv st j (j.lines ++ [lb s]) (sizeL [lb s]) (B + 78 + 3 * sizeL [lb s] + sizeL j.lines) (c + 9)) := by
  have hout := Jr.note_c hH hok (by omega) (by omega)
  have hok1 : ∀ x ∈ [s], okLine (lb x) = true := fun x hx => by rw [List.mem_singleton.1 hx]; exact hok
  have hokl : ∀ x ∈ [lb s], okLine x = true := fun x hx => by rw [List.mem_singleton.1 hx]; exact hok
  have hgz : gateB j.dead [s] = 0 := by rw [hH.has.dead]; exact gateB_zero hok1
  have hsl := (Jr.okLine_len hok).1
  have hsz : s.size ≤ 1000 := by rw [Jr.lb_length] at hsl; exact hsl
  have e1 : sizeL [lb s] = (lb s).length + 8 := rfl
  have hgate := Jr.gate_has hH.has hokl
  unfold Jr.noteF at hout
  rw [if_neg (by rw [hgate]; decide)] at hout
  simp only at hout
  by_cases hz : j.turn = 0
  · rw [if_pos hz] at hout
    have hl0 := Jr.has_turn_lines hH.has hz
    have hsd : 0 ≤ j.side ∧ j.side ≤ 1 := by rcases hH.has.side with e | e <;> omega
    have heq := anewB_eq st j.side j.turn (j.lines.map bs) j.dead [s]
    rw [map_lb_bs] at heq
    have hj : (⟨j.side, j.turn, j.lines, j.dead⟩ : Jn) = j := rfl
    rw [hj, show [s].map lb = [lb s] from rfl] at heq
    have hms := hM.size
    have hfl := Jr.frames_len _ hokl
    have hh := Jr.headI_len (t := j.turn + 1) (n := (Jr.frames [lb s]).length) (by omega) (by omega) (by omega)
    have hnl : (Jr.newTxt j [lb s]).length ≤ 26 + sizeL [lb s] := by
      unfold Jr.newTxt
      rw [List.length_append]
      omega
    have hM' := (hM.anewF hH.has.side hH.has.down [lb s]).mono (B' := B + 78 + 3 * sizeL [lb s] + sizeL j.lines) (c' := c + 9) (by omega) (by omega)
    unfold Jat at hJ
    rw [hz] at hJ
    rw [hz] at heq
    refine (note_first bas b tb row lv st j.side (j.lines.map bs) j.dead s w hg h8 hbs hJ (mes_ok hM (by omega) (by omega)) hsd (by omega) (by omega) (wipe_mes hM hH.has.down hH.has.side.flip (by omega) (by omega))
      (wipe_add_ok hM hH.has.down hH.has.side.flip (by omega) (by omega) hr) hgz _ rfl).mono ?_
    rintro e w' ⟨rfl, row', lv', h1, h2, h3, h4⟩
    rw [heq] at hout hM'
    exact ⟨_, _, _, row', lv', rfl, by unfold Jat; simp only; rw [map_bs_lb]; exact h1, h2, h3, h4, hout, hM'⟩
  rw [if_neg hz] at hout
  have hzb : (j.turn == 0) = false := by simpa using hz
  have k4 : w.cell? ⟨b, 4, none⟩ = some (.bool j.dead) := blk_cell hJ.block 4
  have hblt : b < w.heap.size := blk_lt hJ.block
  have H25 := gate_one b j.dead s w k4 hblt (by omega)
  rw [hgz] at H25
  have HOUT := Lib.hid hout
  have HJ := Lib.hid hJ
  have HM := Lib.hid hM
  clear k4 hJ hout hM hgz hgate hokl e1
  go_enter Tryd.func17, Tryd.ntmps17
  go_wp2_with fail
  refine H25.mono ?_
  rintro e w1 ⟨rfl, hb⟩
  clear H25
  have hJ1 := HJ.out.below hb
  have hg1 := hg.below hb hg.many
  have hs1 : bas ≤ w1.heap.size := Nat.le_trans hbs hb.size
  have k2 : w1.cell? ⟨b, 2, none⟩ = some (.int .i64 j.turn) := blk_cell hJ1.block 2
  go_wp2_with fail
  obtain ⟨r1, hr1⟩ : ∃ r1, Jr.behindF st j (lb s) = r1 := ⟨_, rfl⟩
  refine (behind_glue bas b tb row lv st j B c s w1 hg1 hs1 hJ1 hH HM.out (by omega) (by omega) hr (by omega) hok r1 hr1).mono ?_
  rintro e w2 ⟨rfl, row2, lv2, hJ2, hR2, hF2, hV2, hM2⟩
  have ho := HOUT.out
  have hA1 := Jr.behind_c hH hok hz (by omega)
  rw [hr1] at ho hA1
  have hR02 : RowOk w row row2 := fun k hk => (hR2 k hk).imp id (Nat.le_trans hb.size)
  have hV02 : RowOk w lv.ownBlock lv2.ownBlock := fun k hk => (hV2 k hk).imp id (Nat.le_trans hb.size)
  have hF02 : FrJ w w2 b tb row := (FrJ.of_below hb).trans hF2 (fun _ h => .inl h)
  have hs2 : bas ≤ w2.heap.size := Nat.le_trans hbs hF02.size
  clear hR2 hV2 hF2 HOUT k2
  cases hA1 with
  | ok st1 a1 a2 =>
    rw [if_pos (show (0 : Int) ≠ 15 by decide)] at ho
    have HL := Lib.hid (show LeftC w bas b tb row lv st j (j.lines ++ [lb s]) (sizeL [lb s]) (B + 78 + 3 * sizeL [lb s] + sizeL j.lines) (c + 9) (.returned (.int .i64 0)) w2 from ⟨st1, _, 0, row2, lv2, rfl, hJ2, hR02, hF02, hV02, ho, hM2.mono (by omega) (by omega)⟩)
    clear hJ2 hR02 hF02 hV02 ho hM2
    go_wp2
    go_ret
    exact HL.out
  | full a1 =>
    rw [if_neg (by simp)] at ho
    have hwp := Jr.wipe_ok hH.has.side.flip hH.has.down (by rw [hH.crash]; have := hH.calls; omega)
    rw [hwp] at ho
    simp only [ne_eq, not_true_eq_false, if_false] at ho
    have HO := Lib.hid ho
    have HJ2 := Lib.hid hJ2
    have HSS := Lib.hid (show ∀ w' : World, w'.heap[b]? = w2.heap[b]? → w'.cell? ⟨b, 0, none⟩ = some (.pointer (some ⟨tb, 0, none⟩)) ∧ w'.cell? ⟨b, 1, none⟩ = some (.int .i64 j.side) from fun w' h => by
      have h2 := h.trans HJ2.out.block
      exact ⟨blk_cell h2 0, blk_cell h2 1⟩)
    have hB0 : w2.drew.heap[b]? = w2.heap[b]? := rfl
    have hB2 : w2.heap[b]? = w2.heap[b]? := rfl
    have hT2 : TapeAt w2.drew bas tb row2 st := HJ2.out.tape.below (Below.refl w2.heap.size w2).drew
    have hsd : 0 ≤ j.side ∧ j.side ≤ 1 := by rcases hH.has.side with e | e <;> omega
    have hM2o := mes_ok HM.out (by omega) (by omega)
    have hwr : IntKind.i64.wrap (1 - j.side) = 1 - j.side := by rcases hH.has.side with e | e <;> rw [e] <;> rfl
    have H29 := wipe_any bas tb row2 st (1 - j.side) w2.drew hT2 hM2o hs2
    rw [hwp] at H29
    have H29 := Lib.hid H29
    clear ho hJ2 hT2 hwp
    go_wp2_with fail
    go_region_held3 (fun w' => w'.cell? ⟨b, 0, none⟩ = some (.pointer (some ⟨tb, 0, none⟩)) ∧ w'.cell? ⟨b, 1, none⟩ = some (.int .i64 j.side)) (first | exact HSS.out _ hB0 | exact HSS.out _ hB2 | exact HSS.out _ hB3) (first | (go_at_call 29; (with_reducible refine H29.out.mono ?_); rintro e w3 ⟨rfl, row3, hT3, hR3, hF3⟩; have hB3 : w3.heap[b]? = w2.heap[b]? := hF3.block b (blk_lt HJ2.out.block) HJ2.out.ne (fun e => HJ2.out.nrow e.symm)))
    have hw : Cl (Jr.putOk st (Jr.wipeC (1 - j.side))) j := ⟨hH.has.wiped_has, hH.crash, by show 0 ≤ st.calls + 1; have := hH.calls; omega⟩
    have hMw : Mes (Jr.putOk st (Jr.wipeC (1 - j.side))) B (c + 1) := HM.out.put (Jr.wipeC (1 - j.side)) hH.has.side.flip
    have hrw : (Jr.putOk st (Jr.wipeC (1 - j.side))).room = st.room := rfl
    generalize Jr.putOk st (Jr.wipeC (1 - j.side)) = sw at *
    have hF3d : FrJ w2 w3 b tb row2 := FrJ.of_fr (w := w2) ⟨hF3.os, hF3.tape, hF3.output, hF3.size, hF3.block⟩
    have hR3d : RowOk w2 row2 row3 := hR3
    have hap := own_apart HJ2.out
    have hJ3 : Jat w3 bas b tb row3 lv2 sw j := ⟨hB3.trans HJ2.out.block, own_move2 HJ2.out.own (fun q e => hF3d.block q (own_lt HJ2.out.own q e) (hap q e).1 (hap q e).2.1 (fun e2 => (hap q e).2.2 e2.symm)), HJ2.out.base, hT3, HJ2.out.ne, rowok_ne hR3d (blk_lt HJ2.out.block) HJ2.out.nrow⟩
    have hR03 : RowOk w row row3 := RowOk.trans hR02 hR3d hF02.size
    have hF03 : FrJ w w3 b tb row := hF02.trans hF3d hR02
    have hs3 : bas ≤ w3.heap.size := Nat.le_trans hbs hF03.size
    have hg3 : Gl w3 := hg.frj hF03 (Nat.le_trans h8 HJ.out.base) (Nat.le_trans h8 HJ.out.tape.low.1) (fun q e => by have := HJ.out.tape.low.2 q e; omega)
    have HJ3 := Lib.hid hJ3
    have HF03 := Lib.hid hF03
    have HR03 := Lib.hid hR03
    have HV02 := Lib.hid hV02
    clear hT3 hR3 hF3 hB3 hF3d hR3d hap hJ3 hR02 hF02 hB0 hB2 HJ2 HSS H29 hM2 hs2 hF03 hR03 hV02
    have ho := HO.out
    obtain ⟨r2, hr2⟩ : ∃ r2, Jr.behindF sw j (lb s) = r2 := ⟨_, rfl⟩
    rw [hr2] at ho
    have H28 := Lib.hid (behind_glue bas b tb row3 lv2 sw j B (c + 1) s w3 hg3 hs3 HJ3.out hw hMw (by omega) (by omega) (by rw [hrw]; exact hr) (by omega) hok r2 hr2)
    have hB2 := Jr.behind_c hw hok hz (by omega)
    rw [hr2] at hB2
    have HO2 := Lib.hid ho
    clear ho HO
    go_wp2_with fail
    refine H28.out.mono ?_
    rintro e w4 ⟨rfl, row4, lv4, hJ4, hR4, hF4, hV4, hM4⟩
    have ho := HO2.out
    have hR04 : RowOk w row row4 := RowOk.trans HR03.out hR4 HF03.out.size
    have hV04 : RowOk w lv.ownBlock lv4.ownBlock := RowOk.trans HV02.out (fun k hk => hV4 k hk) HF03.out.size
    have hF04 : FrJ w w4 b tb row := HF03.out.trans hF4 HR03.out
    have hs4 : bas ≤ w4.heap.size := Nat.le_trans hbs hF04.size
    have hg4 : Gl w4 := hg.frj hF04 (Nat.le_trans h8 HJ.out.base) (Nat.le_trans h8 HJ.out.tape.low.1) (fun q e => by have := HJ.out.tape.low.2 q e; omega)
    clear hR4 hV4 hF4 H28 HO2 HJ3 HF03 HR03 HV02 hg3 hs3
    cases hB2 with
    | ok st2 b1 b2 =>
      rw [if_pos (show (0 : Int) ≠ 15 by decide)] at ho
      have HL := Lib.hid (show LeftC w bas b tb row lv st j (j.lines ++ [lb s]) (sizeL [lb s]) (B + 78 + 3 * sizeL [lb s] + sizeL j.lines) (c + 9) (.returned (.int .i64 0)) w4 from ⟨st2, _, 0, row4, lv4, rfl, hJ4, hR04, hF04, hV04, ho, hM4.mono (by omega) (by omega)⟩)
      clear hJ4 hR04 hF04 hV04 ho hM4
      go_wp2
      go_ret
      exact HL.out
    | full b1 =>
      rw [if_neg (by simp)] at ho
      have hOw : OwnLines w4 bas lv4 (j.lines.map bs) := hJ4.own
      have k3 : w4.cell? ⟨b, 3, none⟩ = some lv4 := blk_cell hJ4.block 3
      have hmb : (j.lines.map bs).map lb = j.lines := map_lb_bs _
      have hlb : (j.lines.map bs).length = j.lines.length := List.length_map ..
      generalize hLB : j.lines.map bs = LB at *
      have HMB := Lib.hid hmb
      have HLB := Lib.hid hlb
      have HJ4 := Lib.hid hJ4
      have HO := Lib.hid ho
      have HM4 := Lib.hid hM4
      clear hLB hmb hlb hJ4 ho hM4
      obtain ⟨A4, c4, rfl⟩ := own_slice hOw
      have HLJ := Lib.hid hOw.lines
      clear hOw
      obtain ⟨i0, hi, hz0, hz1, hz2⟩ := info_parts info9
      have Hi := Lib.hid hi
      have Hz0 := Lib.hid hz0
      have Hz1 := Lib.hid hz1
      have Hz2 := Lib.hid hz2
      have HF04 := Lib.hid hF04
      have HR04 := Lib.hid hR04
      have HV04 := Lib.hid hV04
      clear hi hz0 hz1 hz2 hF04 hR04 hV04
      go_wp2_with fail
      refine (clone_any _ LB _ HLJ.out (by have := HLB.out; omega)).mono ?_
      rintro e w5 ⟨v5, rfl, hO5, hb5⟩
      have hA5 := (Below.refl w5.heap.size w5).alloc (Nat.le_refl _) (Obj.cells #[.string s] 9)
      have hb5a := hb5.trans (hA5.mono hb5.size)
      have HO5 := Lib.hid (show (w5.alloc (.cells #[.string s] 9)).ownsRow w4.heap.size 9 1 v5 LB.length (LB.map Value.string) from pw_own_below hO5 hA5)
      have HB5 := Lib.hid hb5a
      have HSZ := Lib.hid hb5a.size
      clear hO5 hb5 hA5 hb5a k3 HLJ
      go_wp2_with (at_builtin; refine wpList_append_own_at _ rfl _ _ 34 rfl w4.heap.size 9 i0 (.string ⟨#[]⟩) 1 16 Tryd.underlying34 Hi.out Hz0.out Hz1.out Hz2.out rfl (by decide) _ _ _ rfl HO5.out ⟨w5.heap.size, 0, none⟩ 1 1 [.string s] rfl rfl (cell_one_new _ _ _) (by intro u hu; simp at hu; subst hu; rfl) (by have := HLB.out; unfold maxLen; omega) (by have := HLB.out; omega) HSZ.out ?_; intro v6 w6 hown6 hgr6 _ hat6; obtain ⟨g6, c6, rfl, _⟩ := own_pos hown6 (by omega); have HOWN := Lib.hid hown6; have HGR := Lib.hid hgr6; clear hown6 hgr6 hat6)
      have hB6 : Below w4.heap.size w4 w6 := HB5.out.grown (show World.grownBy _ w6 v5.ownBlock from HGR.out) HSZ.out (fun k e => own_base HO5.out k e)
      have hO6 : OwnLines w6 w4.heap.size (.slice (some ⟨g6, 0, none⟩) (LB.length + 1) c6) (LB ++ [s]) := by
        unfold OwnLines
        rw [List.length_append, List.map_append]
        exact HOWN.out
      have hlen6 : (LB ++ [s]).length = LB.length + 1 := by rw [List.length_append]; rfl
      have hLS6 := hO6.lines
      have hAp6 := apt_fresh HJ4.out (own_bound hO6)
      rw [← hlen6] at hLS6
      have hJ6 := HJ4.out.below hB6
      have hF06 : FrJ w w6 b tb row := HF04.out.trans (FrJ.of_below (row := row4) hB6) HR04.out
      obtain ⟨r3, hr3⟩ : ∃ r3, Jr.anewF sw j ((LB ++ [s]).map lb) = r3 := ⟨_, rfl⟩
      have hmap : (LB ++ [s]).map lb = j.lines ++ [lb s] := by rw [List.map_append, HMB.out]; rfl
      have hsz6 : sizeL ((LB ++ [s]).map lb) = sizeL j.lines + sizeL [lb s] := by rw [hmap, Jr.sizeL_app]
      have hss : sizeL [lb s] ≤ 1008 := by show (lb s).length + 8 + 0 ≤ 1008; omega
      have H26 := Lib.hid (anew_glue bas b tb row4 _ sw j _ _ (some ⟨g6, 0, none⟩) c6 (LB ++ [s]) w6 (hg.frj hF06 (Nat.le_trans h8 HJ.out.base) (Nat.le_trans h8 HJ.out.tape.low.1) (fun q e => by have := HJ.out.tape.low.2 q e; omega)) h8 (Nat.le_trans hs4 hB6.size) hJ6 hw HM4.out (by omega) (by omega) (by rw [hrw]; exact hr) (by omega) hLS6 (fun a e => by cases e; obtain ⟨q1, q2, q3, _⟩ := hAp6 g6 rfl; exact ⟨q1, q2, q3⟩) (by have := HLB.out; omega) (fun x hx => by
          rcases List.mem_append.1 hx with q | q
          · exact hH.has.ok _ (by rw [← HMB.out]; exact List.mem_map_of_mem q)
          · rw [List.mem_singleton.1 q]; exact hok) (by omega) r3 hr3)
      rw [hlen6] at H26
      have ho := HO.out
      try simp only at ho
      rw [← hmap, hr3, hmap] at ho
      have HO3 := Lib.hid ho
      have HF06 := Lib.hid hF06
      have HS6 := Lib.hid hsz6
      clear HOWN HGR hO6 hLS6 hAp6 hJ6 hB6 HJ4 HO5 HB5 HSZ ho HO hF06 hmap hsz6
      go_wp2_with fail
      refine H26.out.mono ?_
      rintro e w7 ⟨rfl, row7, lv7, hJ7, hR7, hF7, hV7, hM7⟩
      have hss2 := HS6.out
      have HL := Lib.hid (show LeftC w bas b tb row lv st j (j.lines ++ [lb s]) (sizeL [lb s]) (B + 78 + 3 * sizeL [lb s] + sizeL j.lines) (c + 9) (.returned (.int .i64 r3.2.2)) w7 from ⟨_, _, _, row7, lv7, rfl, hJ7, RowOk.trans HR04.out hR7 HF06.out.size, HF06.out.trans hF7 HR04.out, RowOk.trans HV04.out hV7 HF06.out.size, HO3.out, hM7.mono (by omega) (by omega)⟩)
      clear hJ7 hR7 hF7 hV7 hM7 HO3 H26
      go_wp2
      go_ret
      exact HL.out
end Go.Proofs.YtepcagakegbjfaaDoor
/- The law's size of lines. -/
namespace Go.Proofs.YtepcagakegbjfaaDoor
open Go.RowKit Go.Proofs.YtepcagakegbjfaaDoorW.PrintWords
open Jr (bs lb bs_lb lb_bs bs_app okLine TapeSt addF sealF wipeF fallF newSt Has Mes Out Down Jn Sd sizeL Cl AnewC OutC BehC)

theorem size_go (l : List ByteArray) (k : Nat) (hk : k < l.length) : sizeL ((l.take (k + 1)).map lb) = sizeL ((l.take k).map lb) + l[k].size + 8 := by
  rw [List.take_succ_eq_append_getElem hk, List.map_append, Jr.sizeL_app]
  show _ + ((lb l[k]).length + 8 + 0) = _
  rw [Jr.lb_length]
  omega
theorem size_take (l : List ByteArray) (k : Nat) : sizeL ((l.take k).map lb) ≤ sizeL (l.map lb) := by
  have h : l.map lb = (l.take k).map lb ++ (l.drop k).map lb := by rw [← List.map_append, List.take_append_drop]
  rw [h, Jr.sizeL_app]
  omega
set_option maxHeartbeats 800000 in
theorem sizes_any (v : Value) (l : List ByteArray) (w : World) (hl : LinesAt w v l) (hn : l.length ≤ 1000000) (hB : sizeL (l.map lb) ≤ 1000000000) :
    Calls Tryd.prog 20 #[v] w fun e w' => e = .returned (.int .i64 (sizeL (l.map lb) : Nat)) ∧ w' = w := by
  obtain ⟨A, c, rfl⟩ := hl.slice
  have HL := Lib.hid hl
  have HB := Lib.hid hB
  clear hl hB
  go_enter Tryd.func20, Tryd.ntmps20
  go_wp2
  go_loopw [3, 4] (fun s i wr => ∃ k : Nat, k ≤ l.length ∧ i = .int .i64 k ∧ s = .int .i64 (sizeL ((l.take k).map lb) : Nat) ∧ wr = w) (fun _ i _ => l.length - (intOf i).toNat)
  case atStart => exact ⟨0, by omega, rfl, rfl, rfl⟩
  case round =>
    obtain ⟨k, hk, rfl, rfl, rfl⟩ := hrel
    by_cases hlt : k < l.length
    · have HF := Lib.hid (size_go l k hlt)
      have hb1 := HB.out
      have hb2 := size_take l (k + 1)
      rw [HF.out] at hb2
      obtain ⟨g, o, rfl, hgw, hcell⟩ : ∃ g o, A = some ⟨g, o, none⟩ ∧ g < wr.heap.size ∧ wr.cell? ⟨g, o + k, none⟩ = some (.string l[k]) := by
        rcases HL.out with ⟨h0, _⟩ | ⟨g, o, c', hv, hgw, hc⟩
        · rw [h0] at hlt; simp at hlt
        · injection hv with hv
          exact ⟨g, o, hv, hgw, hc k hlt⟩
      generalize l[k] = x at *
      generalize sizeL ((l.take k).map lb) = p at *
      go_wp2
      go_roundw
      case rel => exact ⟨k + 1, by omega, by go_num, by rw [HF.out]; go_num, trivial⟩
      case measure => simp [intOf]; omega
    · obtain rfl : k = l.length := by omega
      go_wp2
      go_ret
      rw [List.take_length]
      exact ⟨rfl, rfl⟩
end Go.Proofs.YtepcagakegbjfaaDoor
