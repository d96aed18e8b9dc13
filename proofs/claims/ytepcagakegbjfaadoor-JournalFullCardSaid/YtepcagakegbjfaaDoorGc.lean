/- Walks of package journal: lines as they stand on a side. -/
import Derived.Test.YtepcagakegbjfaaDoorGb
import Derived.Test.YtepcagakegbjfaaDoorGa
import Derived.Test.YtepcagakegbjfaaDoorShelf
import Derived.Lib.AppendIntMem
import Derived.Laws.Closers25
import Derived.Lib.ItoaLen
import Derived.Deep.RegionHeld3
import Derived.Maps.AppendAt
namespace Go.Proofs.YtepcagakegbjfaaDoor
open Go.RowKit Go.Proofs.YtepcagakegbjfaaDoorW.PrintWords

/-- What the package-level variables hold that these walks read. -/
structure Gl (w : World) : Prop where
  max : ∃ m, w.cell? ⟨0, 0, none⟩ = some (.int .i64 m)
  syn : ∃ v, w.cell? ⟨1, 0, none⟩ = some v ∧ (v = .nilIface ∨ ∃ te pe, v = .iface te pe)
  ran : ∃ v, w.cell? ⟨2, 0, none⟩ = some v ∧ (v = .nilIface ∨ ∃ te pe, v = .iface te pe)
  tab : Lib.TabIs Tryd.prog w "internal/strconv.uint64pow10" .u64 Lib.pow10Tab
  many : 8 ≤ w.heap.size
theorem Gl.of {w w' : World} (h : Gl w) (hb : ∀ k, k < 8 → w'.heap[k]? = w.heap[k]?) (hs : w.heap.size ≤ w'.heap.size) : Gl w' := by
  have hm := h.many
  have hc : ∀ k o, k < 8 → w'.cell? ⟨k, o, none⟩ = w.cell? ⟨k, o, none⟩ := fun k o hk => by
    unfold World.cell?
    simp only
    rw [hb k hk]
  refine ⟨?_, ?_, ?_, ?_, by omega⟩
  · obtain ⟨m, h1⟩ := h.max
    exact ⟨m, by rw [hc 0 0 (by decide)]; exact h1⟩
  · obtain ⟨v, h1, h2⟩ := h.syn
    exact ⟨v, by rw [hc 1 0 (by decide)]; exact h1, h2⟩
  · obtain ⟨v, h1, h2⟩ := h.ran
    exact ⟨v, by rw [hc 2 0 (by decide)]; exact h1, h2⟩
  · have h1 := h.tab
    have hgn : Tryd.prog.globalNamed "internal/strconv.uint64pow10" = some 3 := by kernel_rfl
    unfold Lib.TabIs World.var? at h1 ⊢
    rw [hgn] at h1 ⊢
    simp only [Option.bind_some] at h1 ⊢
    rw [hb 3 (by decide)]
    exact h1
theorem Gl.below {w w' : World} {B : Nat} (h : Gl w) (hb : Below B w w') (hB : 8 ≤ B) : Gl w' :=
  h.of (fun k hk => hb.block k (by omega)) hb.size
theorem Gl.alloc {w : World} (h : Gl w) (o : Obj) : Gl (w.alloc o) := h.below ((Below.refl w.heap.size w).alloc (Nat.le_refl _) o) h.many
theorem Gl.drew {w : World} (h : Gl w) : Gl w.drew := h.below ((Below.refl w.heap.size w).drew) h.many

theorem itoa_any (n : Int) (h0 : -9223372036854775808 ≤ n) (h1 : n ≤ 9223372036854775807) (w : World) (hg : Gl w) :
    Calls Tryd.prog 53 #[.int .i64 n] w fun e w' => e = .returned (.string (Jr.bs (Lib.itoa n))) ∧ Below w.heap.size w w' :=
  (Tryd.strconv_Itoa n h0 h1 w hg.tab).mono fun e w' ⟨he, k, os, hw⟩ => ⟨he, by rw [hw]; exact Lib.below_grow _ w (Nat.le_refl _) k os⟩
end Go.Proofs.YtepcagakegbjfaaDoor
/- Walks of package journal: frames and heads. -/
namespace Go.Proofs.YtepcagakegbjfaaDoor
open Go.RowKit Go.Proofs.YtepcagakegbjfaaDoorW.PrintWords
open Jr (bs lb bs_lb lb_bs bs_app)

theorem itoa_size {n : Nat} (hn : n < 1000000000000) : (bs (Lib.itoa (n : Int))).size ≤ 12 := by
  rw [Jr.bs_size, Jr.itoa_num]
  exact Jr.num_len 12 n (by omega) (by decide)
theorem frame_eq (s : ByteArray) : (⟨#[10]⟩ : ByteArray) ++ bs (Lib.itoa (s.size : Int)) ++ ⟨#[32]⟩ ++ s = bs (Jr.frame (lb s)) := by
  have e : bs (Jr.frame (lb s)) = bs [10] ++ (bs (Lib.itoa (s.size : Int)) ++ (bs [32] ++ bs (lb s))) := by
    rw [← bs_app, ← bs_app, ← bs_app]
    unfold Jr.frame Jr.chunk
    rw [Jr.itoa_num]
    rfl
  rw [e, bs_lb, ByteArray.append_assoc, ByteArray.append_assoc]
  rfl
set_option maxHeartbeats 400000 in
theorem frame_any (s : ByteArray) (hs : s.size < 1000000000000) (w : World) (hg : Gl w) :
    Calls Tryd.prog 46 #[.string s] w fun e w' => e = .returned (.string (bs (Jr.frame (lb s)))) ∧ Below w.heap.size w w' := by
  have hi := itoa_size hs
  have HE := Lib.hid (frame_eq s)
  go_enter Tryd.func46, Tryd.ntmps46
  go_wp2_with fail
  refine (itoa_any s.size (by omega) (by omega) _ hg).mono ?_
  rintro e w1 ⟨rfl, hb⟩
  generalize bs (Lib.itoa (s.size : Int)) = t at *
  go_wp2
  go_ret
  exact ⟨by rw [← HE.out]; rfl, hb⟩
theorem head_eq (t n : Int) : bs (Lib.itoa t) ++ (⟨#[32]⟩ : ByteArray) ++ bs (Lib.itoa n) ++ ⟨#[59]⟩ = bs (Jr.headI t n) := by
  unfold Jr.headI
  have e : bs (Lib.itoa t ++ Jr.sp :: (Lib.itoa n ++ [Jr.semi])) = bs (Lib.itoa t) ++ (bs [32] ++ (bs (Lib.itoa n) ++ bs [59])) := by
    rw [← bs_app, ← bs_app, ← bs_app]
    rfl
  rw [e, ByteArray.append_assoc, ByteArray.append_assoc]
  rfl
set_option maxHeartbeats 400000 in
theorem head_any (t n : Int) (t0 : -9223372036854775808 ≤ t) (t1 : t ≤ 9223372036854775807) (n0 : -9223372036854775808 ≤ n) (n1 : n ≤ 9223372036854775807)
    (ht : (bs (Lib.itoa t)).size ≤ 100) (hn : (bs (Lib.itoa n)).size ≤ 100) (w : World) (hg : Gl w) :
    Calls Tryd.prog 38 #[.int .i64 t, .int .i64 n] w fun e w' => e = .returned (.string (bs (Jr.headI t n))) ∧ Below w.heap.size w w' := by
  have HE := Lib.hid (head_eq t n)
  go_enter Tryd.func38, Tryd.ntmps38
  go_wp2_with fail
  refine (itoa_any t (by omega) (by omega) _ hg).mono ?_
  rintro e w1 ⟨rfl, hb1⟩
  generalize bs (Lib.itoa t) = x at *
  go_wp2_with fail
  refine (itoa_any n (by omega) (by omega) _ (hg.below hb1 hg.many)).mono ?_
  rintro e w2 ⟨rfl, hb2⟩
  generalize bs (Lib.itoa n) = y at *
  go_wp2
  go_ret
  exact ⟨by rw [← HE.out]; rfl, hb1.trans (hb2.mono hb1.size)⟩
/-- Lines in memory: what a slice of texts holds. -/
theorem frames_go (l : List ByteArray) (k : Nat) (hk : k < l.length) : bs (Jr.frames ((l.take (k + 1)).map lb)) = bs (Jr.frames ((l.take k).map lb)) ++ bs (Jr.frame (lb l[k])) := by
  rw [List.take_succ_eq_append_getElem hk, List.map_append, List.map_cons, List.map_nil, ← bs_app]
  congr 1
  unfold Jr.frames
  rw [List.map_append, Jr.body_app]
  show _ ++ Jr.nl :: (Jr.chunk (lb l[k]) ++ Jr.bodyOf []) = _
  rw [show Jr.bodyOf [] = [] from rfl, List.append_nil]
  rfl
/-- A slice of texts: nil, or cells one behind the other; and what they are bounded by. -/
def LinesAt (w : World) (v : Value) (l : List ByteArray) : Prop :=
  (l = [] ∧ ∃ A c, v = .slice A 0 c) ∨ ∃ g o c, v = .slice (some ⟨g, o, none⟩) l.length c ∧ g < w.heap.size ∧ ∀ k (h : k < l.length), w.cell? ⟨g, o + k, none⟩ = some (.string l[k])
theorem LinesAt.slice {w : World} {v : Value} {l : List ByteArray} (h : LinesAt w v l) : ∃ A c, v = .slice A l.length c := by
  rcases h with ⟨rfl, A, c, rfl⟩ | ⟨g, o, c, rfl, _⟩
  · exact ⟨A, c, rfl⟩
  · exact ⟨_, c, rfl⟩
theorem LinesAt.below {w w' : World} {v : Value} {l : List ByteArray} (h : LinesAt w v l) (hb : Below w.heap.size w w') : LinesAt w' v l := by
  rcases h with q | ⟨g, o, c, rfl, hg, hc⟩
  · exact .inl q
  · exact .inr ⟨g, o, c, rfl, Nat.lt_of_lt_of_le hg hb.size, fun k hk => (hb.cell (p := ⟨g, o + k, none⟩) hg).trans (hc k hk)⟩
theorem bs_frames_size (l : List ByteArray) (hB : ∀ s ∈ l, s.size ≤ 100000) : (bs (Jr.frames (l.map lb))).size ≤ l.length * 100020 := by
  induction l with
  | nil => exact Nat.le_refl 0
  | cons s l ih =>
    have h1 := ih (fun x hx => hB x (List.mem_cons_of_mem _ hx))
    have h2 := hB s (List.mem_cons_self ..)
    have h3 : (Jr.num (lb s).length).length ≤ 12 := Jr.num_len 12 _ (by rw [Jr.lb_length]; omega) (by decide)
    rw [Jr.bs_size] at h1 ⊢
    show (Jr.nl :: (Jr.chunk (lb s) ++ Jr.frames (l.map lb))).length ≤ _
    unfold Jr.chunk
    have h4 : (lb s).length = s.size := Jr.lb_length s
    simp only [List.length_cons, List.length_append, List.length_cons]
    omega
set_option maxHeartbeats 800000 in
theorem frames_any (v : Value) (l : List ByteArray) (w : World) (hg : Gl w) (hl : LinesAt w v l) (hn : l.length ≤ 1000000) (hB : ∀ s ∈ l, s.size ≤ 100000) :
    Calls Tryd.prog 43 #[v] w fun e w' => e = .returned (.string (bs (Jr.frames (l.map lb)))) ∧ Below w.heap.size w w' := by
  obtain ⟨A, c, rfl⟩ := hl.slice
  have HL := Lib.hid hl
  have HG := Lib.hid hg
  have HB := Lib.hid hB
  clear hl hB hg
  go_enter Tryd.func43, Tryd.ntmps43
  go_wp2
  go_loopw [3, 8] (fun s i wr => ∃ k : Nat, k ≤ l.length ∧ i = .int .i64 k ∧ s = .string (bs (Jr.frames ((l.take k).map lb))) ∧ Below w.heap.size w wr) (fun _ i _ => l.length - (intOf i).toNat)
  case atStart => exact ⟨0, by omega, rfl, rfl, Below.refl _ _⟩
  case round =>
    obtain ⟨k, hk, rfl, rfl, hb⟩ := hrel
    have hsz := bs_frames_size (l.take k) (fun s hs => HB.out s (List.mem_of_mem_take hs))
    have hlt2 : (l.take k).length ≤ l.length := by rw [List.length_take]; omega
    by_cases hlt : k < l.length
    · have HF := Lib.hid (frames_go l k hlt)
      have hb2 := HB.out l[k] (List.getElem_mem hlt)
      obtain ⟨g, o, rfl, hgw, hcell⟩ : ∃ g o, A = some ⟨g, o, none⟩ ∧ g < w.heap.size ∧ w.cell? ⟨g, o + k, none⟩ = some (.string l[k]) := by
        rcases HL.out with ⟨h0, _⟩ | ⟨g, o, c', hv, hgw, hc⟩
        · rw [h0] at hlt; simp at hlt
        · injection hv with hv
          exact ⟨g, o, hv, hgw, hc k hlt⟩
      have hcell := (hb.cell (p := ⟨g, o + k, none⟩) hgw).trans hcell
      have hfs : (bs (Jr.frame (lb l[k]))).size ≤ 100020 := by
        have := bs_frames_size [l[k]] (fun s hs => by rw [List.mem_singleton.1 hs]; exact hb2)
        have e : Jr.frames ([l[k]].map lb) = Jr.frame (lb l[k]) := by
          show Jr.nl :: (Jr.chunk (lb l[k]) ++ Jr.bodyOf []) = _
          rw [show Jr.bodyOf [] = [] from rfl, List.append_nil]
          rfl
        rw [e] at this
        simpa using this
      generalize l[k] = x at *
      generalize bs (Jr.frames ((l.take k).map lb)) = p at *
      go_wp2_with fail
      refine (frame_any x (by omega) _ (HG.out.below hb HG.out.many)).mono ?_
      rintro e w1 ⟨rfl, hb1⟩
      generalize bs (Jr.frame (lb x)) = q at *
      have hb3 := hb.trans (hb1.mono hb.size)
      clear hb1
      go_wp2
      go_roundw
      case rel => exact ⟨k + 1, by omega, by go_num, by rw [HF.out], hb3⟩
      case measure => simp [intOf]; omega
    · obtain rfl : k = l.length := by omega
      rw [List.take_length] at hsz ⊢
      generalize hp : bs (Jr.frames (l.map lb)) = p at *
      have HP := Lib.hid hp
      clear hp
      go_wp2
      go_ret
      exact ⟨by rw [HP.out]; rfl, hb⟩
end Go.Proofs.YtepcagakegbjfaaDoor
/- Walks of package journal: what may be a line. -/
namespace Go.Proofs.YtepcagakegbjfaaDoor
open Go.RowKit Go.Proofs.YtepcagakegbjfaaDoorW.PrintWords
open Jr (bs lb bs_lb lb_bs bs_app okLine)

set_option maxHeartbeats 400000 in
theorem low_any (c : Int) (w : World) : Calls Tryd.prog 57 #[.int .u8 c] w fun e w' => e = .returned (.bool (decide (c < 32))) ∧ w = w' := by
  go_enter Tryd.func57, Tryd.ntmps57
  go_wp2
  go_ret
  exact ⟨rfl, rfl⟩
/-- The first of those that are low, from k on. -/
def lowAt (l : List Int) (k : Nat) : Int := match (l.drop k).findIdx? (fun c => decide (c < 32)) with
  | some i => (k + i : Nat)
  | none => -1
theorem lowAt_end (l : List Int) : lowAt l l.length = -1 := by unfold lowAt; rw [List.drop_length]; rfl
theorem lowAt_hit {l : List Int} {k : Nat} (h : k < l.length) (hc : l[k] < 32) : lowAt l k = k := by
  unfold lowAt
  rw [List.drop_eq_getElem_cons h, List.findIdx?_cons, decide_eq_true hc]
  rfl
theorem lowAt_miss {l : List Int} {k : Nat} (h : k < l.length) (hc : ¬ l[k] < 32) : lowAt l k = lowAt l (k + 1) := by
  unfold lowAt
  rw [List.drop_eq_getElem_cons h, List.findIdx?_cons, decide_eq_false hc]
  cases (l.drop (k + 1)).findIdx? (fun c => decide (c < 32)) with
  | none => rfl
  | some i =>
    simp only [Option.map_some]
    show ((k + (i + 1) : Nat) : Int) = ((k + 1 + i : Nat) : Int)
    omega
theorem lowAt_all (l : List Int) : decide (0 ≤ lowAt l 0) = l.any fun c => decide (c < 32) := by
  unfold lowAt
  rw [List.drop_zero]
  cases h : l.findIdx? (fun c => decide (c < 32)) with
  | none =>
    have := List.findIdx?_eq_none_iff.1 h
    simp only
    rw [decide_eq_false (by decide)]
    symm
    rw [List.any_eq_false]
    intro x hx
    simpa using this x hx
  | some i =>
    simp only
    rw [decide_eq_true (by omega)]
    symm
    rw [List.any_eq_true]
    have := List.findIdx?_eq_some_iff_getElem.1 h
    obtain ⟨hi, hp, _⟩ := this
    exact ⟨l[i], List.getElem_mem hi, hp⟩
set_option maxHeartbeats 800000 in
theorem idx68 (A : Option Addr) (l : List Int) (c : Nat) (w : World) (hn : l.length ≤ 1000000000) (hl : ∀ k (h : k < l.length), ∃ g o, A = some ⟨g, o, none⟩ ∧ w.cell? ⟨g, o + k, none⟩ = some (.int .u8 l[k])) (fv : Value) (hf : fv = .func (.func 57) #[] #[]) :
    Calls Tryd.prog 68 #[.slice A l.length c, fv] w fun e w' => e = .returned (.int .i64 (lowAt l 0)) ∧ w = w' := by
  subst hf
  have HL := Lib.hid hl
  clear hl
  go_enter Tryd.func68, Tryd.ntmps68
  go_wp2
  go_loop [5, 8] (fun _ i => ∃ k : Nat, k ≤ l.length ∧ i = .int .i64 k ∧ lowAt l 0 = lowAt l k) (fun _ i => l.length - (intOf i).toNat)
  case atStart => exact ⟨0, by omega, rfl, rfl⟩
  case round =>
    obtain ⟨k, hk, rfl, he⟩ := hrel
    have HE := Lib.hid he
    clear he
    by_cases hlt : k < l.length
    · obtain ⟨g, o, rfl, hcell⟩ := HL.out k hlt
      have h1 := lowAt_hit (l := l) hlt
      have h2 := lowAt_miss (l := l) hlt
      have H1 := Lib.hid h1
      have H2 := Lib.hid h2
      clear h1 h2
      generalize l[k] = x at *
      go_wp2_with fail
      refine (low_any x _).mono ?_
      rintro e w1 ⟨rfl, rfl⟩
      by_cases hx : x < 32
      · rw [decide_eq_true hx]
        go_wp2
        go_ret
        exact ⟨by rw [HE.out, H1.out hx]; rfl, rfl⟩
      · rw [decide_eq_false hx]
        go_wp2
        go_round
        case rel => exact ⟨k + 1, by omega, by go_num, by rw [HE.out, H2.out hx]⟩
        case measure => simp [intOf]; omega
    · obtain rfl : k = l.length := by omega
      go_wp2
      go_ret
      exact ⟨by rw [HE.out, lowAt_end]; rfl, rfl⟩
set_option maxHeartbeats 400000 in
theorem has56 (A : Option Addr) (l : List Int) (c : Nat) (w : World) (hn : l.length ≤ 1000000000) (hl : ∀ k (h : k < l.length), ∃ g o, A = some ⟨g, o, none⟩ ∧ w.cell? ⟨g, o + k, none⟩ = some (.int .u8 l[k])) :
    Calls Tryd.prog 56 #[.slice A l.length c, .func (.func 57) #[] #[]] w fun e w' => e = .returned (.bool (l.any fun c => decide (c < 32))) ∧ w = w' := by
  have HE := Lib.hid (lowAt_all l)
  go_enter Tryd.func56, Tryd.ntmps56
  go_wp2_with fail
  refine (idx68 A l c w hn hl _ rfl).mono ?_
  rintro e w1 ⟨rfl, rfl⟩
  generalize lowAt l 0 = x at *
  go_wp2
  go_ret
  exact ⟨by rw [← HE.out]; rfl, rfl⟩
theorem has56' (A : Option Addr) (n : Nat) (l : List Int) (c : Nat) (w : World) (hnl : n = l.length) (hn : n ≤ 1000000000) (hl : ∀ k (h : k < l.length), ∃ g o, A = some ⟨g, o, none⟩ ∧ w.cell? ⟨g, o + k, none⟩ = some (.int .u8 l[k])) :
    Calls Tryd.prog 56 #[.slice A n c, .func (.func 57) #[] #[]] w fun e w' => e = .returned (.bool (l.any fun c => decide (c < 32))) ∧ w = w' := by
  subst hnl
  exact has56 A l c w hn hl
theorem low_bytes (s : ByteArray) : ((lb s).map fun c => (c.toNat : Int)).any (fun c => decide (c < 32)) = !(lb s).all fun c => decide (32 ≤ c.toNat) := by
  rw [List.any_map, List.all_eq_not_any_not, Bool.not_not]
  congr 1
  funext c
  simp only [Function.comp]
  by_cases h : 32 ≤ c.toNat
  · rw [decide_eq_true h, decide_eq_false (by omega)]; rfl
  · rw [decide_eq_false h, decide_eq_true (by omega)]; rfl
set_option maxHeartbeats 800000 in
theorem line_any (s : ByteArray) (hs : s.size ≤ 1000000000) (w : World) :
    Calls Tryd.prog 42 #[.string s] w fun e w' => e = .returned (.bool (okLine (lb s))) ∧ Below w.heap.size w w' := by
  by_cases h0 : s.size = 0
  · obtain rfl : s = ⟨#[]⟩ := by
      have h2 : lb s = [] := List.eq_nil_of_length_eq_zero (by rw [Jr.lb_length]; exact h0)
      rw [← bs_lb s, h2]
      rfl
    go_enter Tryd.func42, Tryd.ntmps42
    go_wp2
    go_ret
    exact ⟨rfl, Below.refl _ _⟩
  · by_cases h1 : s.size ≤ 1000
    · have cv : ∀ w, (convert 9 35 (.string s)).run Tryd.prog w = .ok (.slice (some ⟨w.heap.size, 0, none⟩) s.size (grownCap w s.size 0 5)) (Lib.bytesWorld w 5 s) := fun w => Lib.run_convert_string_bytes (u := .string) w 9 35 5 s (by kernel_rfl) (by kernel_rfl) (by kernel_rfl)
      have hemp : s.toList.isEmpty = false := by
        rw [← decide_eq_emptyBytes]
        exact decide_eq_false (fun h => h0 (by rw [h]; rfl))
      go_enter Tryd.func42, Tryd.ntmps42
      go_wp2_with fail
      case isTrue =>
        refine (has56' _ s.size ((lb s).map fun c => (c.toNat : Int)) _ _ (by simp [Jr.lb_length]) (by omega) ?_).mono ?_
        · intro k hk
          have hk2 : k < s.size := by simpa [Jr.lb_length] using hk
          refine ⟨_, 0, rfl, ?_⟩
          rw [Nat.zero_add, Lib.bytesWorld_cell _ 5 s k hk2]
          simp only [List.getElem_map]
          rw [List.getD_eq_getElem?_getD, List.getElem?_eq_getElem (by simpa [Jr.lb_length] using hk)]
          rfl
        · rintro e w1 ⟨rfl, rfl⟩
          rw [low_bytes]
          have hok : okLine (lb s) = (lb s).all fun c => decide (32 ≤ c.toNat) := by
            unfold okLine
            have e1 : (lb s).isEmpty = false := by
              rw [List.isEmpty_eq_false_iff]
              intro h
              exact h0 (by rw [← Jr.lb_length, h]; rfl)
            have e2 : decide ((lb s).length ≤ 1000) = true := decide_eq_true (by rw [Jr.lb_length]; exact h1)
            rw [e1, e2]
            rfl
          have HOK := Lib.hid hok
          clear hok
          generalize ((lb s).all fun c => decide (32 ≤ c.toNat)) = ok at *
          go_wp2
          go_ret
          refine ⟨?_, Lib.bytesWorld_below _ _ _⟩
          rw [HOK.out]
          cases ok <;> rfl
    · have hok : okLine (lb s) = false := by
        unfold okLine
        have e2 : decide ((lb s).length ≤ 1000) = false := decide_eq_false (by rw [Jr.lb_length]; exact h1)
        rw [e2]
        simp
      have hemp : s.toList.isEmpty = false := by
        rw [← decide_eq_emptyBytes]
        exact decide_eq_false (fun h => h0 (by rw [h]; rfl))
      have HOK := Lib.hid hok
      clear hok
      go_enter Tryd.func42, Tryd.ntmps42
      go_wp2
      go_ret
      exact ⟨by rw [HOK.out]; rfl, Below.refl _ _⟩
end Go.Proofs.YtepcagakegbjfaaDoor
/- Walks of package journal: the gate. -/
namespace Go.Proofs.YtepcagakegbjfaaDoor
open Go.RowKit Go.Proofs.YtepcagakegbjfaaDoorW.PrintWords
open Jr (bs lb bs_lb lb_bs bs_app okLine)

set_option maxHeartbeats 400000 in
theorem bad_any (s : ByteArray) (hs : s.size ≤ 1000000000) (w : World) : Calls Tryd.prog 41 #[.string s] w fun e w' => e = .returned (.bool (!okLine (lb s))) ∧ Below w.heap.size w w' := by
  go_enter Tryd.func41, Tryd.ntmps41
  go_wp2_with fail
  refine (line_any s hs _).mono ?_
  rintro e w1 ⟨rfl, hb⟩
  generalize hx : okLine (lb s) = x at *
  have HX := Lib.hid hx
  clear hx
  go_wp2
  go_ret
  exact ⟨by rw [HX.out]; rfl, hb⟩
/-- The first of those that are no lines, from k on. -/
def badAt (l : List ByteArray) (k : Nat) : Int := match (l.drop k).findIdx? (fun s => !okLine (lb s)) with
  | some i => (k + i : Nat)
  | none => -1
theorem badAt_end (l : List ByteArray) : badAt l l.length = -1 := by unfold badAt; rw [List.drop_length]; rfl
theorem badAt_hit {l : List ByteArray} {k : Nat} (h : k < l.length) (hc : okLine (lb l[k]) = false) : badAt l k = k := by
  unfold badAt
  rw [List.drop_eq_getElem_cons h, List.findIdx?_cons, hc]
  rfl
theorem badAt_miss {l : List ByteArray} {k : Nat} (h : k < l.length) (hc : okLine (lb l[k]) = true) : badAt l k = badAt l (k + 1) := by
  unfold badAt
  rw [List.drop_eq_getElem_cons h, List.findIdx?_cons, hc]
  cases (l.drop (k + 1)).findIdx? (fun s => !okLine (lb s)) with
  | none => rfl
  | some i =>
    simp only [Option.map_some]
    show ((k + (i + 1) : Nat) : Int) = ((k + 1 + i : Nat) : Int)
    omega
theorem badAt_all (l : List ByteArray) : decide (0 ≤ badAt l 0) = !(l.map lb).all okLine := by
  unfold badAt
  rw [List.drop_zero, List.all_map]
  cases h : l.findIdx? (fun s => !okLine (lb s)) with
  | none =>
    have := List.findIdx?_eq_none_iff.1 h
    simp only
    rw [decide_eq_false (by decide)]
    have h2 : l.all (okLine ∘ lb) = true := by
      rw [List.all_eq_true]
      intro x hx
      simpa using this x hx
    rw [h2]
    rfl
  | some i =>
    simp only
    rw [decide_eq_true (by omega)]
    obtain ⟨hi, hp, _⟩ := List.findIdx?_eq_some_iff_getElem.1 h
    have h2 : l.all (okLine ∘ lb) = false := by
      rw [List.all_eq_false]
      exact ⟨l[i], List.getElem_mem hi, by simpa using hp⟩
    rw [h2]
    rfl
set_option maxHeartbeats 800000 in
theorem idx55 (A : Option Addr) (l : List ByteArray) (c : Nat) (w : World) (hn : l.length ≤ 1000000) (hl : LinesAt w (.slice A l.length c) l) (hB : ∀ s ∈ l, s.size ≤ 1000000000) (fv : Value) (hf : fv = .func (.func 41) #[] #[]) :
    Calls Tryd.prog 55 #[.slice A l.length c, fv] w fun e w' => e = .returned (.int .i64 (badAt l 0)) ∧ Below w.heap.size w w' := by
  subst hf
  have HL := Lib.hid hl
  have HB := Lib.hid hB
  clear hl hB
  go_enter Tryd.func55, Tryd.ntmps55
  go_wp2
  go_loopw [5, 8] (fun _ i wr => ∃ k : Nat, k ≤ l.length ∧ i = .int .i64 k ∧ badAt l 0 = badAt l k ∧ Below w.heap.size w wr) (fun _ i _ => l.length - (intOf i).toNat)
  case atStart => exact ⟨0, by omega, rfl, rfl, Below.refl _ _⟩
  case round =>
    obtain ⟨k, hk, rfl, he, hb⟩ := hrel
    have HE := Lib.hid he
    clear he
    by_cases hlt : k < l.length
    · have hb2 := HB.out l[k] (List.getElem_mem hlt)
      obtain ⟨g, o, rfl, hgw, hcell⟩ : ∃ g o, A = some ⟨g, o, none⟩ ∧ g < w.heap.size ∧ w.cell? ⟨g, o + k, none⟩ = some (.string l[k]) := by
        rcases HL.out with ⟨h0, _⟩ | ⟨g, o, c', hv, hgw, hc⟩
        · rw [h0] at hlt; simp at hlt
        · injection hv with hv
          exact ⟨g, o, hv, hgw, hc k hlt⟩
      have hcell := (hb.cell (p := ⟨g, o + k, none⟩) hgw).trans hcell
      have H1 := Lib.hid (badAt_hit (l := l) hlt)
      have H2 := Lib.hid (badAt_miss (l := l) hlt)
      generalize l[k] = x at *
      go_wp2_with fail
      refine (bad_any x hb2 _).mono ?_
      rintro e w1 ⟨rfl, hb1⟩
      have hb3 := hb.trans (hb1.mono hb.size)
      clear hb1
      cases hx : okLine (lb x) with
      | false =>
        go_wp2
        go_ret
        exact ⟨by rw [HE.out, H1.out hx]; rfl, hb3⟩
      | true =>
        go_wp2
        go_roundw
        case rel => exact ⟨k + 1, by omega, by go_num, by rw [HE.out, H2.out hx], hb3⟩
        case measure => simp [intOf]; omega
    · obtain rfl : k = l.length := by omega
      go_wp2
      go_ret
      exact ⟨by rw [HE.out, badAt_end]; rfl, hb⟩
set_option maxHeartbeats 400000 in
theorem has40 (A : Option Addr) (l : List ByteArray) (c : Nat) (w : World) (hn : l.length ≤ 1000000) (hl : LinesAt w (.slice A l.length c) l) (hB : ∀ s ∈ l, s.size ≤ 1000000000) :
    Calls Tryd.prog 40 #[.slice A l.length c, .func (.func 41) #[] #[]] w fun e w' => e = .returned (.bool (!(l.map lb).all okLine)) ∧ Below w.heap.size w w' := by
  have HE := Lib.hid (badAt_all l)
  go_enter Tryd.func40, Tryd.ntmps40
  go_wp2_with fail
  refine (idx55 A l c w hn hl hB _ rfl).mono ?_
  rintro e w1 ⟨rfl, hb⟩
  generalize badAt l 0 = x at *
  go_wp2
  go_ret
  exact ⟨by rw [← HE.out]; rfl, hb⟩
/-- A journal's own block. -/
def jnCells (tb : Nat) (side turn : Int) (lv : Value) (dead : Bool) : Array Value := #[.pointer (some ⟨tb, 0, none⟩), .int .i64 side, .int .i64 turn, lv, .bool dead]
set_option maxHeartbeats 400000 in
theorem jgate_any (b : Nat) (dead : Bool) (A : Option Addr) (l : List ByteArray) (c : Nat) (w : World) (h4 : w.cell? ⟨b, 4, none⟩ = some (.bool dead)) (hn : l.length ≤ 1000000) (hl : LinesAt w (.slice A l.length c) l) (hB : ∀ s ∈ l, s.size ≤ 1000000000) :
    Calls Tryd.prog 25 #[.pointer (some ⟨b, 0, none⟩), .slice A l.length c] w fun e w' => e = .returned (.int .i64 (if dead then 16 else if (l.map lb).all okLine then 0 else 1)) ∧ Below w.heap.size w w' := by
  cases dead with
  | true =>
    go_enter Tryd.func25, Tryd.ntmps25
    go_wp2
    go_ret
    exact ⟨rfl, Below.refl _ _⟩
  | false =>
    have h40 := has40 A l c w hn hl hB
    cases hx : (l.map lb).all okLine with
    | true =>
      rw [hx] at h40
      have H40 : Calls Tryd.prog 40 #[.slice A l.length c, .func (.func 41) #[] #[]] w fun e w' => e = .returned (.bool false) ∧ Below w.heap.size w w' := h40
      clear h40 hx hl hB hn
      generalize l.length = n at *
      go_enter Tryd.func25, Tryd.ntmps25
      go_wp2_with fail
      refine H40.mono ?_
      rintro e w1 ⟨rfl, hb⟩
      clear H40 h4
      go_wp2
      go_ret
      exact ⟨rfl, hb⟩
    | false =>
      rw [hx] at h40
      have H40 : Calls Tryd.prog 40 #[.slice A l.length c, .func (.func 41) #[] #[]] w fun e w' => e = .returned (.bool true) ∧ Below w.heap.size w w' := h40
      clear h40 hx hl hB hn
      generalize l.length = n at *
      go_enter Tryd.func25, Tryd.ntmps25
      go_wp2_with fail
      refine H40.mono ?_
      rintro e w1 ⟨rfl, hb⟩
      clear H40 h4
      go_wp2
      go_ret
      exact ⟨rfl, hb⟩
end Go.Proofs.YtepcagakegbjfaaDoor
/- Walks of package journal: a journal's block. -/
namespace Go.Proofs.YtepcagakegbjfaaDoor
open Go.RowKit Go.Proofs.YtepcagakegbjfaaDoorW.PrintWords
open Jr (bs lb bs_lb lb_bs bs_app okLine)

def deadF (dead : Bool) (e : Int) : Bool := dead || (decide (e ≠ 0) && decide (e ≠ 15))
set_option maxHeartbeats 400000 in
theorem told_any (b tb : Nat) (side turn : Int) (lv : Value) (dead : Bool) (e : Int) (w : World) (hB : w.heap[b]? = some (.cells (jnCells tb side turn lv dead) 58 (0, 0))) :
    Calls Tryd.prog 30 #[.pointer (some ⟨b, 0, none⟩), .int .i64 e] w
      fun r w' => r = .returned (.int .i64 e) ∧ w'.heap[b]? = some (.cells (jnCells tb side turn lv (deadF dead e)) 58 (0, 0)) ∧ Fr w w' b none := by
  have k4 : w.cell? ⟨b, 4, none⟩ = some (.bool dead) := blk_cell hB 4
  have f4 := blk_frozen hB 4
  have hb := blk_lt hB
  have HB := Lib.hid hB
  clear hB
  have fin : ∀ d : Bool, d = deadF dead e → (w.setCell ⟨b, 4, none⟩ (.bool d)).heap[b]? = some (.cells (jnCells tb side turn lv (deadF dead e)) 58 (0, 0)) ∧ Fr w (w.setCell ⟨b, 4, none⟩ (.bool d)) b none := by
    rintro d rfl
    exact ⟨blk_set HB.out 4 _, (Fr.refl _ _ _).set _ _⟩
  have FIN := Lib.hid fin
  clear fin
  cases dead with
  | true =>
    go_enter Tryd.func30, Tryd.ntmps30
    go_wp2
    go_ret
    exact ⟨rfl, FIN.out true rfl⟩
  | false =>
    by_cases h0 : e = 0
    · subst h0
      go_enter Tryd.func30, Tryd.ntmps30
      go_wp2
      go_ret
      exact ⟨rfl, FIN.out false rfl⟩
    · by_cases h1 : e = 15
      · subst h1
        go_enter Tryd.func30, Tryd.ntmps30
        go_wp2
        go_ret
        exact ⟨rfl, FIN.out false rfl⟩
      · have hd : true = deadF false e := by
          unfold deadF
          rw [decide_eq_true h0, decide_eq_true h1]
          rfl
        have HD := Lib.hid hd
        clear hd
        go_enter Tryd.func30, Tryd.ntmps30
        go_wp2
        go_ret
        exact ⟨rfl, FIN.out _ (by rw [← HD.out]; simp [h0, h1])⟩
/-- A list of texts that is one's own: nobody else writes it. -/
def OwnLines (w : World) (base : Nat) (v : Value) (l : List ByteArray) : Prop := w.ownsRow base 9 1 v l.length (l.map Value.string)
theorem clone_any (v : Value) (l : List ByteArray) (w : World) (hl : LinesAt w v l) (hn : l.length ≤ 1000000) :
    Calls Tryd.prog 31 #[v] w fun e w' => ∃ v', e = .returned v' ∧ OwnLines w' w.heap.size v' l ∧ Below w.heap.size w w' := by
  rcases hl with ⟨rfl, A, c, rfl⟩ | ⟨g, o, c, rfl, hg, hc⟩
  · cases A with
    | none =>
      exact (Tryd.slices_Clone_string_nil 0 c w).mono fun e w' ⟨he, hw⟩ => ⟨_, he, by rw [hw]; exact own_nil _ _ _ _, by rw [hw]; exact Below.refl _ _⟩
    | some a =>
      exact (Tryd.slices_Clone_string_zero a c w).mono fun e w' ⟨v', he, ho, _, hb⟩ => ⟨v', he, ho, hb⟩
  · refine (Tryd.slices_Clone_string g o l.length c l w (Nat.le_refl _) (by omega) ?_).mono ?_
    · intro j hj
      rw [hc j hj, List.getD_eq_getElem?_getD, List.getElem?_eq_getElem hj]
      rfl
    · rintro e w' ⟨v', he, ho, _, hb⟩
      rw [List.take_length] at ho
      exact ⟨v', he, ho, hb⟩
end Go.Proofs.YtepcagakegbjfaaDoor
/- Walks of package journal: what a side has. -/
namespace Go.Proofs.YtepcagakegbjfaaDoor
open Go.RowKit Go.Proofs.YtepcagakegbjfaaDoorW.PrintWords
open Jr (bs lb bs_lb lb_bs bs_app okLine)

theorem atoi_any (s : ByteArray) (hs : s.size ≤ 1000000000000) (w : World) (hg : Gl w) :
    Calls Tryd.prog 36 #[.string s] w fun e w' => ∃ ev, e = .returned (.tuple #[.int .i64 (Jr.atoiV (lb s)), ev]) ∧ Below w.heap.size w w' := by
  obtain ⟨v1, hv1, hv2⟩ := hg.syn
  obtain ⟨u1, hu1, hu2⟩ := hg.ran
  unfold Jr.atoiV lb
  cases h : Lib.atoiAll s.data.toList with
  | ok v =>
    refine (Tryd.strconv_Atoi_ok s (by omega) v h w).mono ?_
    rintro e w' ⟨he, hw⟩
    refine ⟨_, he, ?_⟩
    rcases hw with rfl | ⟨t, rfl⟩
    · exact Below.refl _ _
    · exact Lib.bytesWorld_below _ _ _
  | range =>
    refine (Tryd.strconv_Atoi_range s (by omega) h u1 w hu1 hu2).mono ?_
    rintro e w' ⟨N, he, _, _, hb⟩
    exact ⟨_, he, hb⟩
  | _ =>
    refine (Go.Proofs.Any.strconv_Atoi_syntax Tryd.laysC172 s (by omega) h v1 w hv1 hv2).mono ?_
    rintro e w' ⟨N, he, _, _, hb⟩
    exact ⟨_, he, hb⟩
theorem below_drewN (w : World) (n : Nat) : Below w.heap.size w (w.drewN n) := ⟨rfl, rfl, rfl, Nat.le_refl _, fun _ _ => rfl⟩
theorem cut_any (s : ByteArray) (c : UInt8) (hs : s.size < 4294967281) (w : World) (hg : Gl w) :
    Calls Tryd.prog 35 #[.string s, .string ⟨#[c]⟩] w fun e w' => e = .returned (.tuple #[.string (bs (Jr.cut1 c (lb s)).1), .string (bs (Jr.cut1 c (lb s)).2.1), .bool (Jr.cut1 c (lb s)).2.2]) ∧ Below w.heap.size w w' := by
  obtain ⟨m, hm⟩ := hg.max
  refine (Tryd.strings_Cut s ⟨#[c]⟩ m w hs hm).mono ?_
  rintro e w' ⟨he, n, rfl⟩
  have e1 : Lib.cut s.data.toList [c] = Jr.cut1 c (lb s) := Jr.cut1_lib c (lb s)
  refine ⟨?_, below_drewN _ _⟩
  rw [he]
  show Ending.returned (.tuple #[.string ⟨(Lib.cut s.data.toList [c]).1.toArray⟩, .string ⟨(Lib.cut s.data.toList [c]).2.1.toArray⟩, .bool (Lib.cut s.data.toList [c]).2.2]) = _
  rw [e1]
  rfl
theorem prefix_lib : ∀ (s p : List UInt8), Lib.hasPrefix s p = p.isPrefixOf s := by
  intro s p
  unfold Lib.hasPrefix
  first
    | rfl
    | (rw [Bool.eq_iff_iff]; simp [List.isPrefixOf_iff_prefix]; done)
    | trace_state
end Go.Proofs.YtepcagakegbjfaaDoor
/- Walks of package journal: a side is read. -/
namespace Go.Proofs.YtepcagakegbjfaaDoor
open Go.RowKit Go.Proofs.YtepcagakegbjfaaDoorW.PrintWords
open Jr (bs lb bs_lb lb_bs bs_app okLine)

theorem atoiV_range (l : List UInt8) : -9223372036854775808 ≤ Jr.atoiV l ∧ Jr.atoiV l ≤ 9223372036854775807 := by
  unfold Jr.atoiV
  cases h : Lib.atoiAll l with
  | ok v =>
    simp only
    unfold Lib.atoiAll at h
    split at h
    · cases h
    · simp only at h
      split at h
      · cases h
      · cases h
      · split at h
        · cases h
        · split at h
          · cases h
          · rename_i n1 n2
            injection h with h
            subst h
            split <;> omega
  | range =>
    simp only
    unfold Lib.atoiSat
    split <;> omega
  | _ => simp only; omega
theorem itoa_size2 {n : Int} (h0 : -9223372036854775808 ≤ n) (h1 : n ≤ 9223372036854775807) : (bs (Lib.itoa n)).size ≤ 100 := by
  rw [Jr.bs_size]
  exact Nat.le_trans (Lib.itoa_length_le n h0 h1) (by decide)
/-- What is wanted of 'unframed'. -/
def Unf : Prop := ∀ (s : ByteArray) (w : World), s.size ≤ 1000000000 → Gl w → Calls Tryd.prog 39 #[.string s] w fun e w' => ∃ v, e = .returned v ∧ OwnLines w' w.heap.size v ((Jr.unframed (lb s)).map bs) ∧ Below w.heap.size w w'
theorem cut1_len (c : UInt8) : ∀ s : List UInt8, (Jr.cut1 c s).1.length ≤ s.length ∧ (Jr.cut1 c s).2.1.length ≤ s.length
  | [] => ⟨Nat.le_refl _, Nat.le_refl _⟩
  | x :: r => by
    have ih := cut1_len c r
    unfold Jr.cut1
    split
    · exact ⟨Nat.zero_le _, Nat.le_succ _⟩
    · simp only [List.length_cons]
      exact ⟨Nat.succ_le_succ ih.1, Nat.le_succ_of_le ih.2⟩
theorem prefix_any (s p : ByteArray) (w : World) : Calls Tryd.prog 37 #[.string s, .string p] w fun e w' => e = .returned (.bool ((lb p).isPrefixOf (lb s))) ∧ w' = w := Tryd.strings_HasPrefix s p w
theorem own_none (w : World) (base : Nat) : OwnLines w base (.slice none 0 0) [] := own_nil _ _ _ _
/-- A side's lines, as bytes. -/
def readV (s : ByteArray) : Int × List ByteArray := ((Jr.readF (lb s)).1, (Jr.readF (lb s)).2.map bs)
set_option maxHeartbeats 1600000 in
theorem read_any (hU : Unf) (s : ByteArray) (hs : s.size ≤ 1000000000) (w : World) (hg : Gl w) :
    Calls Tryd.prog 24 #[.string s] w fun e w' => ∃ v, e = .returned (.tuple #[.int .i64 (readV s).1, v]) ∧ OwnLines w' w.heap.size v (readV s).2 ∧ Below w.heap.size w w' := by
  have l1 := cut1_len 59 (lb s)
  have l2 := cut1_len 32 (Jr.cut1 59 (lb s)).1
  have hls : (lb s).length = s.size := Jr.lb_length s
  have HR : Hid (Jr.readF (lb s) = if Jr.atoiV (Jr.cut1 32 (Jr.cut1 59 (lb s)).1).1 < 1 ∨ ¬ (Jr.headI (Jr.atoiV (Jr.cut1 32 (Jr.cut1 59 (lb s)).1).1) (Jr.atoiV (Jr.cut1 32 (Jr.cut1 59 (lb s)).1).2.1)).isPrefixOf (lb s) ∨ ((Jr.cut1 59 (lb s)).2.1.length : Int) < Jr.atoiV (Jr.cut1 32 (Jr.cut1 59 (lb s)).1).2.1 then (0, []) else (Jr.atoiV (Jr.cut1 32 (Jr.cut1 59 (lb s)).1).1, Jr.unframed (Jr.cut1 59 (lb s)).2.1)) := Lib.hid rfl
  go_enter Tryd.func24, Tryd.ntmps24
  go_wp2_with fail
  refine (cut_any s 59 (by omega) _ hg).mono ?_
  rintro e w1 ⟨rfl, hb1⟩
  generalize hc1 : Jr.cut1 59 (lb s) = c1 at *
  obtain ⟨h, rest, f1⟩ := c1
  simp only at l1 l2 HR ⊢
  have HC1 := Lib.hid hc1
  clear hc1
  go_wp2_with fail
  refine (cut_any (bs h) 32 (by rw [Jr.bs_size]; omega) _ (hg.below hb1 hg.many)).mono ?_
  rintro e w2 ⟨rfl, hb2⟩
  rw [lb_bs]
  generalize hc2 : Jr.cut1 32 h = c2 at *
  obtain ⟨a, b, f2⟩ := c2
  simp only at l2 HR ⊢
  have HC2 := Lib.hid hc2
  clear hc2
  have hb12 := hb1.trans (hb2.mono hb1.size)
  go_wp2_with fail
  refine (atoi_any (bs a) (by rw [Jr.bs_size]; omega) _ (hg.below hb12 hg.many)).mono ?_
  rintro e w3 ⟨ev1, rfl, hb3⟩
  rw [lb_bs]
  have hb13 := hb12.trans (hb3.mono hb12.size)
  go_wp2_with fail
  refine (atoi_any (bs b) (by rw [Jr.bs_size]; omega) _ (hg.below hb13 hg.many)).mono ?_
  rintro e w4 ⟨ev2, rfl, hb4⟩
  rw [lb_bs]
  have hb14 := hb13.trans (hb4.mono hb13.size)
  have r1 := atoiV_range a
  have r2 := atoiV_range b
  generalize Jr.atoiV a = t at *
  generalize Jr.atoiV b = n at *
  clear hb1 hb2 hb3 hb4 hb12 hb13
  have hg4 := hg.below hb14 hg.many
  by_cases ht : t < 1
  · have hv : readV s = (0, []) := by
      unfold readV
      rw [HR.out, if_pos (.inl ht)]
      rfl
    have HV := Lib.hid hv
    clear hv
    go_wp2
    go_ret2
    refine ⟨.slice none 0 0, by rw [HV.out]; rfl, by rw [HV.out]; exact own_none _ _, hb14⟩
  · have i1 := itoa_size2 r1.1 r1.2
    have i2 := itoa_size2 r2.1 r2.2
    by_cases hp : (Jr.headI t n).isPrefixOf (lb s) = true
    · by_cases hz : (rest.length : Int) < n
      · have hv : readV s = (0, []) := by
          unfold readV
          rw [HR.out, if_pos (.inr (.inr hz))]
          rfl
        have HV := Lib.hid hv
        have HP := Lib.hid hp
        clear hv hp
        have hz2 : ((bs rest).size : Int) < n := hz
        go_wp2_with fail
        refine (head_any t n r1.1 r1.2 r2.1 r2.2 i1 i2 _ hg4).mono ?_
        rintro e w5 ⟨rfl, hb5⟩
        have hb15 := hb14.trans (hb5.mono hb14.size)
        clear hb14 hb5
        go_wp2_with fail
        have HPR : Calls Tryd.prog 37 #[.string s, .string (bs (Jr.headI t n))] w5 fun e w' => e = .returned (.bool true) ∧ w' = w5 := by
          have := prefix_any s (bs (Jr.headI t n)) w5
          rw [lb_bs, HP.out] at this
          exact this
        refine HPR.mono ?_
        rintro e w6 ⟨rfl, rfl⟩
        clear HPR i1 i2
        go_wp2
        go_ret2
        refine ⟨.slice none 0 0, by rw [HV.out]; rfl, by rw [HV.out]; exact own_none _ _, hb15⟩
      · have hv : readV s = (t, (Jr.unframed rest).map bs) := by
          unfold readV
          rw [HR.out, if_neg (by
            rintro (q | q | q)
            · exact ht q
            · exact q hp
            · exact hz q)]
        have HV := Lib.hid hv
        have HP := Lib.hid hp
        clear hv hp
        have hz2 : ¬ ((bs rest).size : Int) < n := hz
        go_wp2_with fail
        refine (head_any t n r1.1 r1.2 r2.1 r2.2 i1 i2 _ hg4).mono ?_
        rintro e w5 ⟨rfl, hb5⟩
        have hb15 := hb14.trans (hb5.mono hb14.size)
        clear hb14 hb5
        go_wp2_with fail
        have HPR : Calls Tryd.prog 37 #[.string s, .string (bs (Jr.headI t n))] w5 fun e w' => e = .returned (.bool true) ∧ w' = w5 := by
          have := prefix_any s (bs (Jr.headI t n)) w5
          rw [lb_bs, HP.out] at this
          exact this
        refine HPR.mono ?_
        rintro e w6 ⟨rfl, rfl⟩
        clear HPR i1 i2
        have hg5 := hg.below hb15 hg.many
        go_wp2_with fail
        refine (hU (bs rest) _ (by rw [Jr.bs_size]; omega) hg5).mono ?_
        rintro e w7 ⟨v, rfl, ho, hb7⟩
        rw [lb_bs] at ho
        have HO := Lib.hid ho
        clear ho
        have hb17 := hb15.trans (hb7.mono hb15.size)
        go_wp2
        go_ret2
        refine ⟨v, by rw [HV.out]; rfl, ?_, hb17⟩
        rw [HV.out]
        exact own_weaken HO.out hb15.size
    · have hp : (Jr.headI t n).isPrefixOf (lb s) = false := Bool.eq_false_iff.2 hp
      have hv : readV s = (0, []) := by
        unfold readV
        rw [HR.out, if_pos (.inr (.inl (by rw [hp]; decide)))]
        rfl
      have HV := Lib.hid hv
      have HP := Lib.hid hp
      clear hv hp
      go_wp2_with fail
      refine (head_any t n r1.1 r1.2 r2.1 r2.2 i1 i2 _ hg4).mono ?_
      rintro e w5 ⟨rfl, hb5⟩
      have hb15 := hb14.trans (hb5.mono hb14.size)
      clear hb14 hb5
      go_wp2_with fail
      have HPR : Calls Tryd.prog 37 #[.string s, .string (bs (Jr.headI t n))] w5 fun e w' => e = .returned (.bool false) ∧ w' = w5 := by
        have := prefix_any s (bs (Jr.headI t n)) w5
        rw [lb_bs, HP.out] at this
        exact this
      refine HPR.mono ?_
      rintro e w6 ⟨rfl, rfl⟩
      clear HPR i1 i2
      go_wp2
      go_ret2
      refine ⟨.slice none 0 0, by rw [HV.out]; rfl, by rw [HV.out]; exact own_none _ _, hb15⟩
end Go.Proofs.YtepcagakegbjfaaDoor
/- Walks of package journal: one more line. -/
namespace Go.Proofs.YtepcagakegbjfaaDoor
open Go.RowKit Go.Proofs.YtepcagakegbjfaaDoorW.PrintWords
open Jr (bs lb bs_lb lb_bs bs_app okLine TapeSt addF sealF)

/-- A journal in memory: its block, its lines' row, its tape. -/
structure JAt (w : World) (bas b tb : Nat) (row : Option Nat) (lv : Value) (st : TapeSt) (side turn : Int) (l : List ByteArray) (dead : Bool) : Prop where
  block : w.heap[b]? = some (.cells (jnCells tb side turn lv dead) 58 (0, 0))
  own : OwnLines w bas lv l
  base : bas ≤ b
  tape : TapeAt w bas tb row st
  ne : b ≠ tb
  nrow : row ≠ some b
theorem one_str (w : World) (x : ByteArray) (t : TypeId) : StrsAt (w.alloc (.cells #[.string x] t)) (.slice (some ⟨w.heap.size, 0, none⟩) 1 1) [x] := by
  refine .inr ⟨w.heap.size, 0, 1, rfl, by simp, ?_⟩
  intro k hk
  have hk : k = 0 := by simp at hk; omega
  subst hk
  exact blk_cell (blk_new w (Obj.cells #[.string x] t)) 0
set_option maxHeartbeats 1600000 in
/-- Of what was there only the journal's block, its tape and the tape's row may have turned. -/
structure FrJ (w w' : World) (b tb : Nat) (row : Option Nat) : Prop where
  os : w'.os = w.os
  tape : w'.tape = w.tape
  output : w'.output = w.output
  size : w.heap.size ≤ w'.heap.size
  block : ∀ k, k < w.heap.size → k ≠ b → k ≠ tb → some k ≠ row → w'.heap[k]? = w.heap[k]?
theorem FrJ.of_fr {w w' : World} {b tb : Nat} {row : Option Nat} (h : Fr w w' tb row) : FrJ w w' b tb row := ⟨h.os, h.tape, h.output, h.size, fun k hk _ h2 h3 => h.block k hk h2 h3⟩
theorem FrJ.of_fr' {w w' : World} {b tb : Nat} {row : Option Nat} (h : Fr w w' b none) : FrJ w w' b tb row := ⟨h.os, h.tape, h.output, h.size, fun k hk h1 _ _ => h.block k hk h1 (by simp)⟩
theorem FrJ.of_below {w w' : World} {b tb : Nat} {row : Option Nat} (h : Below w.heap.size w w') : FrJ w w' b tb row := ⟨h.os, h.tape, h.output, h.size, fun k hk _ _ _ => h.block k hk⟩
theorem FrJ.trans {w w1 w2 : World} {b tb : Nat} {row row1 : Option Nat} (h : FrJ w w1 b tb row) (k : FrJ w1 w2 b tb row1) (hr : RowOk w row row1) : FrJ w w2 b tb row :=
  ⟨k.os.trans h.os, k.tape.trans h.tape, k.output.trans h.output, Nat.le_trans h.size k.size, fun i hi h1 h2 hn =>
    (k.block i (Nat.lt_of_lt_of_le hi h.size) h1 h2 (fun e => by rcases hr i e.symm with h' | h'; exact hn h'.symm; omega)).trans (h.block i hi h1 h2 hn)⟩
/-- What 'behind' does, on bytes. -/
def behindB (st : TapeSt) (side : Int) (l : List ByteArray) (dead : Bool) (s : ByteArray) : TapeSt × List ByteArray × Bool × Int :=
  if (addF st side [bs (Jr.frame (lb s))]).2 ≠ 0 then ((addF st side [bs (Jr.frame (lb s))]).1, l, deadF dead (addF st side [bs (Jr.frame (lb s))]).2, (addF st side [bs (Jr.frame (lb s))]).2) else
  if (sealF (addF st side [bs (Jr.frame (lb s))]).1).2 ≠ 0 then ((sealF (addF st side [bs (Jr.frame (lb s))]).1).1, l, deadF dead (sealF (addF st side [bs (Jr.frame (lb s))]).1).2, (sealF (addF st side [bs (Jr.frame (lb s))]).1).2) else
  ((sealF (addF st side [bs (Jr.frame (lb s))]).1).1, l ++ [s], dead, 0)
theorem own_fr {w w1 : World} {bas tb : Nat} {row : Option Nat} {lv : Value} {l : List ByteArray} {st : TapeSt} (ho : OwnLines w bas lv l) (hT : TapeAt w bas tb row st) (hF : Fr w w1 tb row) : OwnLines w1 bas lv l := by
  obtain ⟨tv, hrow, hb, hB, hO⟩ := hT
  refine hF.own ho (fun e => own_ne ho hB (by decide) e.symm) ?_
  cases h : lv.ownBlock with
  | none => exact .inl rfl
  | some k =>
    right
    intro e
    have := own_type_ne ho hO (by decide)
    rcases this with q | q
    · rw [h] at q; cases q
    · exact q (by rw [h, e, hrow])
theorem TapeAt.frb {w w1 : World} {bas b tb : Nat} {row : Option Nat} {st : TapeSt} (hT : TapeAt w bas tb row st) (hF : Fr w w1 b none) (hne : b ≠ tb) (hnr : row ≠ some b) : TapeAt w1 bas tb row st := by
  obtain ⟨tv, hrow, hb, hB, hO⟩ := hT
  refine ⟨tv, hrow, hb, hF.keep hB (Ne.symm hne) (by simp), hF.own hO (by rw [hrow]; exact hnr) ?_⟩
  cases h : tv.ownBlock with
  | none => exact .inl rfl
  | some k => exact .inr (by simp)
theorem own_frb {w w1 : World} {bas b tb : Nat} {side turn : Int} {lv lv2 : Value} {dead : Bool} {l : List ByteArray} (ho : OwnLines w bas lv l) (hB : w.heap[b]? = some (.cells (jnCells tb side turn lv2 dead) 58 (0, 0))) (hF : Fr w w1 b none) : OwnLines w1 bas lv l := by
  refine hF.own ho (fun e => own_ne ho hB (by decide) e.symm) ?_
  cases h : lv.ownBlock with
  | none => exact .inl rfl
  | some k => exact .inr (by simp)
theorem OwnLines.lines {w : World} {bas : Nat} {lv : Value} {l : List ByteArray} (ho : OwnLines w bas lv l) : LinesAt w lv l := by
  obtain ⟨A, c, hv⟩ := own_slice ho
  cases l with
  | nil => exact .inl ⟨rfl, A, c, hv⟩
  | cons x l =>
    have ho2 := ho
    obtain ⟨h1, h2⟩ := ho
    rcases h2 with ⟨q, h0⟩ | ⟨g, cap, cur, q, _, hh, _⟩
    · simp at h0
    · refine .inr ⟨g, 0, cap, q, blk_lt hh, fun k hk => ?_⟩
      rw [q] at ho2
      rw [Nat.zero_add]
      exact (own_cells ho2 k (.string (x :: l)[k]) (by rw [List.getElem?_map, List.getElem?_eq_getElem hk]; rfl)).1
theorem rowok_ne {w : World} {b : Nat} {row row' : Option Nat} (h : RowOk w row row') (hb : b < w.heap.size) (hn : row ≠ some b) : row' ≠ some b := fun e => by
  rcases h b e with q | q
  · exact hn q
  · omega
theorem RowOk.trans {w w1 : World} {row row1 row2 : Option Nat} (h : RowOk w row row1) (k : RowOk w1 row1 row2) (hs : w.heap.size ≤ w1.heap.size) : RowOk w row row2 := fun j hj => by
  rcases k j hj with q | q
  · exact h j q
  · exact .inr (by omega)
theorem own_succ {W : World} {base : Nat} {e : TypeId} {size : Nat} {v : Value} {k : Nat} {xs : List Value} (h : W.ownsRow base e size v (k + 1) xs) : ∃ g cap, v = .slice (some ⟨g, 0, none⟩) (k + 1) cap := by
  rcases h.2 with ⟨_, h0⟩ | ⟨g, cap, _, rfl, _⟩
  · omega
  · exact ⟨g, cap, rfl⟩
theorem info9 : (Tryd.prog.info? 9).map (fun i => (i.zero, i.size, i.bytes)) = some (some (.string ⟨#[]⟩), 1, 16) := by kernel_rfl
theorem own_bound {w : World} {bas n : Nat} {v : Value} {xs : List Value} (h : w.ownsRow bas 9 1 v n xs) : ∀ k, v.ownBlock = some k → bas ≤ k := fun k hk => own_base h k hk
theorem behind_any (bas b tb : Nat) (row : Option Nat) (lv : Value) (st : TapeSt) (side turn : Int) (l : List ByteArray) (dead : Bool) (s : ByteArray) (w : World) (hg : Gl w) (hbs : bas ≤ w.heap.size)
    (hJ : JAt w bas b tb row lv st side turn l dead) (hok : st.Ok) (hs : s.size < 100000) (hok1 : (addF st side [bs (Jr.frame (lb s))]).1.Ok) (hln : l.length ≤ 1000000) (hsz : st.s0.size + st.s1.size + Jr.mores st.loose ≤ 100000000) :
    Calls Tryd.prog 28 #[.pointer (some ⟨b, 0, none⟩), .string s] w fun e w' => e = .returned (.int .i64 (behindB st side l dead s).2.2.2) ∧ ∃ row' lv', JAt w' bas b tb row' lv' (behindB st side l dead s).1 side turn (behindB st side l dead s).2.1 (behindB st side l dead s).2.2.1 ∧ RowOk w row row' ∧ FrJ w w' b tb row ∧ RowOk w lv.ownBlock lv'.ownBlock := by
  have k0 : w.cell? ⟨b, 0, none⟩ = some (.pointer (some ⟨tb, 0, none⟩)) := blk_cell hJ.block 0
  have k1 : w.cell? ⟨b, 1, none⟩ = some (.int .i64 side) := blk_cell hJ.block 1
  have hb := blk_lt hJ.block
  have hfs : (bs (Jr.frame (lb s))).size ≤ 100020 := by
    have := bs_frames_size [s] (fun x hx => by rw [List.mem_singleton.1 hx]; omega)
    have e : Jr.frames ([s].map lb) = Jr.frame (lb s) := by
      show Jr.nl :: (Jr.chunk (lb s) ++ Jr.bodyOf []) = _
      rw [show Jr.bodyOf [] = [] from rfl, List.append_nil]
      rfl
    rw [e] at this
    simpa using this
  have hT0 := hJ.tape
  have hTd : TapeAt w.drew bas tb row st := hT0.below (Below.refl w.heap.size w).drew
  have hnr := hJ.nrow
  have hne := hJ.ne
  have HJ := Lib.hid hJ
  clear hJ
  have HSS := Lib.hid (show ∀ w' : World, w'.heap[b]? = w.heap[b]? → w'.cell? ⟨b, 0, none⟩ = some (.pointer (some ⟨tb, 0, none⟩)) ∧ w'.cell? ⟨b, 1, none⟩ = some (.int .i64 side) from fun w' h => by
    have h2 := h.trans HJ.out.block
    exact ⟨blk_cell h2 0, blk_cell h2 1⟩)
  have hB0 : w.drew.heap[b]? = w.heap[b]? := rfl
  clear k0 k1
  go_enter Tryd.func28, Tryd.ntmps28
  go_wp2_with fail
  go_region_held3 (fun w' => w'.cell? ⟨b, 0, none⟩ = some (.pointer (some ⟨tb, 0, none⟩)) ∧ w'.cell? ⟨b, 1, none⟩ = some (.int .i64 side))
    (first | exact HSS.out _ hB0 | exact HSS.out _ hB1 | exact HSS.out _ hB1' | exact HSS.out _ hB2)
    (first | (go_at_call 46; refine (frame_any s (by omega) _ hg.drew).mono ?_; rintro e w1 ⟨rfl, hb1⟩; have hB1 : w1.heap[b]? = w.heap[b]? := hb1.block b hb; have hA1 := (Below.refl w1.heap.size w1).alloc (Nat.le_refl _) (Obj.cells #[.string (bs (Jr.frame (lb s)))] 9); have hB1' := (hA1.block b (Nat.lt_of_lt_of_le hb hb1.size)).trans hB1) | (go_at_call 44; refine (add_any bas tb row st side _ [bs (Jr.frame (lb s))] _ ((hTd.below hb1).below hA1) hok (Nat.le_trans hbs (Nat.le_trans hb1.size hA1.size)) (one_str w1 _ 9) (by simp) (by simp only [sizes, List.foldr_cons, List.foldr_nil]; omega)).mono ?_; rintro e w2 ⟨rfl, row2, hT2, hr2, hF2⟩; have hB2 : w2.heap[b]? = w.heap[b]? := (hF2.block b (Nat.lt_of_lt_of_le hb (Nat.le_trans hb1.size hA1.size)) hne (fun e => hnr e.symm)).trans hB1'))
  have hB2o := hB2
  have hown2 : OwnLines w2 bas lv l := by
    have h1 : OwnLines w.drew bas lv l := pw_own_below HJ.out.own (Below.refl w.heap.size w).drew
    have h2 : OwnLines w1 bas lv l := pw_own_below h1 hb1
    exact own_fr (pw_own_below h2 hA1) ((hTd.below hb1).below hA1) hF2
  have hFJ2 : FrJ w w2 b tb row := (FrJ.of_below (((Below.refl w.heap.size w).drew.trans hb1).trans (hA1.mono hb1.size))).trans (FrJ.of_fr hF2) (fun _ h => .inl h)
  have hblk2 := hB2o.trans HJ.out.block
  have hr02 : RowOk w row row2 := fun k hk => by
    rcases hr2 k hk with q | q
    · exact .inl q
    · exact .inr (Nat.le_trans (Nat.le_trans hb1.size hA1.size) q)
  have hbase := HJ.out.base
  have hsz2 := hF2.size
  have hb2lt : b < w2.heap.size := blk_lt hblk2
  clear hB0 hB1 hB1' hB2 hA1 hTd hT0 hF2 hr2 hb1
  generalize hadd : addF st side [bs (Jr.frame (lb s))] = ad at *
  obtain ⟨st1, er⟩ := ad
  have HADD := Lib.hid hadd
  clear hadd
  simp only at hT2 hok1 ⊢
  have k0 : w2.cell? ⟨b, 0, none⟩ = some (.pointer (some ⟨tb, 0, none⟩)) := blk_cell hblk2 0
  by_cases her : er = 0
  · subst her
    go_wp2_with fail
    refine (seal_any bas tb row2 st1 _ hT2 hok1).mono ?_
    rintro e w3 ⟨rfl, row3, hT3, hr3, hF3⟩
    have hblk3 := hF3.keep hblk2 hne (fun e => rowok_ne hr02 hb hnr e.symm)
    have hown3 := own_fr hown2 hT2 hF3
    have hr03 : RowOk w row row3 := RowOk.trans hr02 hr3 hFJ2.size
    have hF03 : FrJ w w3 b tb row := hFJ2.trans (FrJ.of_fr hF3) hr02
    have hFJ3s := hF03.size
    generalize hseal : sealF st1 = sd at *
    obtain ⟨st2, es⟩ := sd
    have HSEAL := Lib.hid hseal
    clear hseal hown2 hT2 hF3 hr3 hFJ2 hblk2 k0
    simp only at hT3 ⊢
    by_cases hes : es = 0
    · subst hes
      have HBB := Lib.hid (show behindB st side l dead s = (st2, l ++ [s], dead, 0) from by
        unfold behindB
        rw [HADD.out]
        simp only [ne_eq, not_true_eq_false, if_false]
        rw [HSEAL.out]
        rfl)
      have k3 : w3.cell? ⟨b, 3, none⟩ = some lv := blk_cell hblk3 3
      have hb3lt := blk_lt hblk3
      obtain ⟨i0, hi, hz0, hz1, hz2⟩ := info_parts info9
      have Hi := Lib.hid hi
      have Hz0 := Lib.hid hz0
      have Hz1 := Lib.hid hz1
      have Hz2 := Lib.hid hz2
      clear hi hz0 hz1 hz2
      go_wp2_with fail
      refine (clone_any lv l _ hown3.lines hln).mono ?_
      rintro e w4 ⟨v', rfl, ho4, hb4⟩
      have hA4 := (Below.refl w4.heap.size w4).alloc (Nat.le_refl _) (Obj.cells #[.string s] 9)
      have HO4 := Lib.hid (show (w4.alloc (.cells #[.string s] 9)).ownsRow w3.heap.size 9 1 v' l.length (l.map Value.string) from (pw_own_below ho4 hA4))
      have hbd := own_bound ho4
      have h34 : Below w3.heap.size w3 (w4.alloc (.cells #[.string s] 9)) := hb4.trans (hA4.mono hb4.size)
      have hs34 := h34.size
      have HSZ := Lib.hid hs34
      have H34 := Lib.hid h34
      have HBD := Lib.hid hbd
      have HB3 := Lib.hid hblk3
      have HB4 := Lib.hid hb4
      clear k3 ho4 hA4 hs34 h34 hbd hblk3 hb4
      go_wp2_with (at_builtin; refine wpList_append_own_at _ rfl _ _ 34 rfl w3.heap.size 9 i0 (.string ⟨#[]⟩) 1 16 Tryd.underlying34 Hi.out Hz0.out Hz1.out Hz2.out rfl (by decide) _ _ _ rfl HO4.out ⟨w4.heap.size, 0, none⟩ 1 1 [.string s] rfl rfl (cell_one_new _ _ _) (by intro u hu; simp at hu; subst hu; rfl) (by unfold maxLen; omega) (by omega) HSZ.out ?_; intro v5 w5 hown5 hgrow hnil hat; obtain ⟨g5, c5, rfl⟩ := own_succ hown5; have h35 : Below w3.heap.size w3 w5 := H34.out.grown hgrow HSZ.out HBD.out; have hk5 : w5.heap[b]? = some (.cells (jnCells tb side turn lv dead) 58 (0, 0)) := (h35.block b hb3lt).trans HB3.out; have k53 : w5.cell? ⟨b, 3, none⟩ = some lv := blk_cell hk5 3; have f53 : w5.frozen? ⟨b, 3, none⟩ = false := blk_frozen hk5 3; have H35 := Lib.hid h35; have HOWN5 := Lib.hid hown5; have HK5 := Lib.hid hk5; clear h35 hown5 hk5 hgrow hnil hat)
      have h35 := H35.out
      have hown5 := HOWN5.out
      have hk5 := HK5.out
      have hF56 : Fr w5 (w5.setCell ⟨b, 3, none⟩ (.slice (some ⟨g5, 0, none⟩) (l.length + 1) c5)) b none := (Fr.refl _ _ _).set _ _
      have hown6 : OwnLines w5 bas (.slice (some ⟨g5, 0, none⟩) (l.length + 1) c5) (l ++ [s]) := by
        unfold OwnLines
        rw [List.length_append, List.map_append]
        exact own_weaken hown5 (Nat.le_trans hbs hFJ3s)
      have hown7 := own_frb hown6 hk5 hF56
      have hB6 : (w5.setCell ⟨b, 3, none⟩ (.slice (some ⟨g5, 0, none⟩) (l.length + 1) c5)).heap[b]? = some (.cells (jnCells tb side turn (.slice (some ⟨g5, 0, none⟩) (l.length + 1) c5) dead) 58 (0, 0)) := blk_set hk5 3 _
      have HJ6 := Lib.hid (show JAt (w5.setCell ⟨b, 3, none⟩ (.slice (some ⟨g5, 0, none⟩) (l.length + 1) c5)) bas b tb row3 (.slice (some ⟨g5, 0, none⟩) (l.length + 1) c5) st2 side turn (l ++ [s]) dead from ⟨hB6, hown7, hbase, (hT3.below h35).frb hF56 hne (rowok_ne hr03 hb hnr), hne, rowok_ne hr03 hb hnr⟩)
      have HF06 := Lib.hid (show FrJ w (w5.setCell ⟨b, 3, none⟩ (.slice (some ⟨g5, 0, none⟩) (l.length + 1) c5)) b tb row from (hF03.trans (FrJ.of_below (row := row3) h35) hr03).trans (FrJ.of_fr' (row := row) hF56) (fun _ h => .inl h))
      clear hB6 hown7 hown6 hF56 hk5 h35 hown5 hT3 hF03 hown3
      go_wp2
      go_ret
      rw [HBB.out]
      exact ⟨rfl, row3, _, HJ6.out, hr03, HF06.out, fun k hk => .inr (Nat.le_trans hFJ3s (own_bound HOWN5.out k hk))⟩
    · have HBB := Lib.hid (show behindB st side l dead s = (st2, l, deadF dead es, es) from by
        unfold behindB
        rw [HADD.out]
        simp only [ne_eq, not_true_eq_false, if_false]
        rw [HSEAL.out]
        exact if_pos hes)
      have hes2 : (es == 0) = false := by simpa using hes
      go_wp2_with fail
      refine (told_any b tb side turn lv dead es _ hblk3).mono ?_
      rintro e w4 ⟨rfl, hB4, hF4⟩
      have HJ4 := Lib.hid (show JAt w4 bas b tb row3 lv st2 side turn l (deadF dead es) from ⟨hB4, own_frb hown3 hblk3 hF4, hbase, hT3.frb hF4 hne (rowok_ne hr03 hb hnr), hne, rowok_ne hr03 hb hnr⟩)
      have HF04 := Lib.hid (show FrJ w w4 b tb row from hF03.trans (FrJ.of_fr' (row := row) hF4) (fun _ h => .inl h))
      clear hblk3 hB4 hF4 hT3 hown3 hF03
      go_wp2
      go_ret
      rw [HBB.out]
      exact ⟨rfl, row3, lv, HJ4.out, hr03, HF04.out, fun _ h => .inl h⟩
  · have HBB := Lib.hid (show behindB st side l dead s = (st1, l, deadF dead er, er) from by
      unfold behindB
      rw [HADD.out]
      exact if_pos her)
    have her2 : (er == 0) = false := by simpa using her
    go_wp2_with fail
    refine (told_any b tb side turn lv dead er _ hblk2).mono ?_
    rintro e w3 ⟨rfl, hB3, hF3⟩
    have hJ3 : JAt w3 bas b tb row2 lv st1 side turn l (deadF dead er) := ⟨hB3, own_frb hown2 hblk2 hF3, hbase, hT2.frb hF3 hne (rowok_ne hr02 hb hnr), hne, rowok_ne hr02 hb hnr⟩
    have hF03 : FrJ w w3 b tb row := hFJ2.trans (FrJ.of_fr' (row := row) hF3) (fun _ h => .inl h)
    have HJ3 := Lib.hid hJ3
    have HF03 := Lib.hid hF03
    clear hJ3 hF03 hblk2 hB3 hF3 hT2 hown2 hFJ2
    go_wp2
    go_ret
    rw [HBB.out]
    exact ⟨rfl, row2, lv, HJ3.out, hr02, HF03.out, fun _ h => .inl h⟩
theorem behindB_eq (st : TapeSt) (side turn : Int) (l : List ByteArray) (dead : Bool) (s : ByteArray) :
    Jr.behindF st ⟨side, turn, l.map lb, dead⟩ (lb s) = ((behindB st side l dead s).1, ⟨side, turn, (behindB st side l dead s).2.1.map lb, (behindB st side l dead s).2.2.1⟩, (behindB st side l dead s).2.2.2) := by
  unfold Jr.behindF behindB
  simp only
  generalize addF st side [bs (Jr.frame (lb s))] = ad
  obtain ⟨st1, er⟩ := ad
  simp only
  by_cases h : er = 0
  · subst h
    simp only [ne_eq, not_true_eq_false, if_false]
    generalize sealF st1 = sd
    obtain ⟨st2, es⟩ := sd
    simp only
    by_cases h2 : es = 0
    · subst h2
      simp only [ne_eq, not_true_eq_false, if_false, List.map_append, List.map_cons, List.map_nil]
    · rw [if_pos h2, if_pos h2]
      rfl
  · rw [if_pos h, if_pos h]
    rfl
end Go.Proofs.YtepcagakegbjfaaDoor
/- Walks of package journal: new lines. -/
namespace Go.Proofs.YtepcagakegbjfaaDoor
open Go.RowKit Go.Proofs.YtepcagakegbjfaaDoorW.PrintWords
open Jr (bs lb bs_lb lb_bs bs_app okLine TapeSt addF sealF wipeF)

theorem TapeAt.low {w : World} {bas tb : Nat} {row : Option Nat} {st : TapeSt} (hT : TapeAt w bas tb row st) : bas ≤ tb ∧ ∀ k, row = some k → bas ≤ k := by
  obtain ⟨tv, hrow, hb, hB, hO⟩ := hT
  exact ⟨hb, fun k hk => own_base hO k (hrow.trans hk)⟩
theorem Gl.frj {w w' : World} {b tb : Nat} {row : Option Nat} (h : Gl w) (hF : FrJ w w' b tb row) (h1 : 8 ≤ b) (h2 : 8 ≤ tb) (h3 : ∀ k, row = some k → 8 ≤ k) : Gl w' :=
  h.of (fun k hk => hF.block k (by have := h.many; omega) (by omega) (by omega) (fun e => by have := h3 k e.symm; omega)) hF.size
theorem LinesAt.drew {w : World} {v : Value} {l : List ByteArray} (h : LinesAt w v l) : LinesAt w.drew v l := h.below (Below.refl w.heap.size w).drew
/-- What 'anew' does, on bytes. -/
def anewB (st : TapeSt) (side turn : Int) (l : List ByteArray) (dead : Bool) (ls : List ByteArray) : TapeSt × (Int × Int × List ByteArray × Bool) × Int :=
  let w := wipeF st (1 - side)
  if w.2 ≠ 0 then (w.1, (side, turn, l, deadF dead w.2), w.2) else
  let a := addF w.1 (1 - side) [bs (Jr.headI (turn + 1) (Jr.frames (ls.map lb)).length), bs (Jr.frames (ls.map lb))]
  if a.2 ≠ 0 then (a.1, (side, turn, l, deadF dead a.2), a.2) else
  let s := sealF a.1
  if s.2 ≠ 0 then (s.1, (side, turn, l, deadF dead s.2), s.2) else (s.1, (1 - side, turn + 1, ls, dead), 0)
theorem two_str (w : World) (x y : ByteArray) (t : TypeId) : StrsAt (w.alloc (.cells #[.string x, .string y] t)) (.slice (some ⟨w.heap.size, 0, none⟩) 2 2) [x, y] := by
  refine .inr ⟨w.heap.size, 0, 2, rfl, by simp, ?_⟩
  intro k hk
  have hk : k < 2 := hk
  have hn := blk_new w (Obj.cells #[.string x, .string y] t)
  rcases (by omega : k = 0 ∨ k = 1) with rfl | rfl
  · exact blk_cell hn 0
  · exact blk_cell hn 1
theorem LinesAt.frj {w w' : World} {A : Option Addr} {n c b tb : Nat} {row : Option Nat} {l : List ByteArray} (h : LinesAt w (.slice A n c) l) (hF : FrJ w w' b tb row) (hA : ∀ a, A = some a → a.block ≠ b ∧ a.block ≠ tb ∧ row ≠ some a.block) : LinesAt w' (.slice A n c) l := by
  rcases h with q | ⟨g, o, c', hv, hg, hc⟩
  · exact .inl q
  · refine .inr ⟨g, o, c', hv, Nat.lt_of_lt_of_le hg hF.size, fun k hk => ?_⟩
    injection hv with hv
    obtain ⟨h1, h2, h3⟩ := hA _ hv
    rw [← hc k hk]
    unfold World.cell?
    simp only
    rw [hF.block g hg h1 h2 (fun e => h3 e.symm)]
set_option maxHeartbeats 1600000 in
theorem anew_any (bas b tb : Nat) (row : Option Nat) (lv : Value) (st : TapeSt) (side turn : Int) (l : List ByteArray) (dead : Bool) (A : Option Addr) (c : Nat) (ls : List ByteArray) (w : World) (hg : Gl w) (h8 : 8 ≤ bas) (hbs : bas ≤ w.heap.size)
    (hJ : JAt w bas b tb row lv st side turn l dead) (hok : st.Ok) (hsd : 0 ≤ side ∧ side ≤ 1) (htn : 0 ≤ turn ∧ turn ≤ 1000000000000) (hls : LinesAt w (.slice A ls.length c) ls) (hA : ∀ a, A = some a → a.block ≠ b ∧ a.block ≠ tb ∧ row ≠ some a.block) (hln : ls.length ≤ 1000) (hsl : ∀ s ∈ ls, s.size ≤ 100000) (hsz : st.s0.size + st.s1.size + Jr.mores st.loose ≤ 100000000) (hok1 : (wipeF st (1 - side)).1.Ok ∧ (wipeF st (1 - side)).1.s0.size + (wipeF st (1 - side)).1.s1.size + Jr.mores (wipeF st (1 - side)).1.loose ≤ 100000000)
    (hok2 : ∀ m, (addF (wipeF st (1 - side)).1 (1 - side) m).1.Ok) (r : TapeSt × (Int × Int × List ByteArray × Bool) × Int) (hr : anewB st side turn l dead ls = r) :
    Calls Tryd.prog 26 #[.pointer (some ⟨b, 0, none⟩), .slice A ls.length c] w fun e w' => e = .returned (.int .i64 r.2.2) ∧ ∃ row' lv', JAt w' bas b tb row' lv' r.1 r.2.1.1 r.2.1.2.1 r.2.1.2.2.1 r.2.1.2.2.2 ∧ RowOk w row row' ∧ FrJ w w' b tb row ∧ RowOk w lv.ownBlock lv'.ownBlock := by
  have hb := blk_lt hJ.block
  have HR := Lib.hid hr
  clear hr
  have hT0 := hJ.tape
  have hnr := hJ.nrow
  have hne := hJ.ne
  have HJ := Lib.hid hJ
  clear hJ
  have HSS := Lib.hid (show ∀ w' : World, w'.heap[b]? = w.heap[b]? → w'.cell? ⟨b, 1, none⟩ = some (.int .i64 side) ∧ w'.cell? ⟨b, 2, none⟩ = some (.int .i64 turn) from fun w' h => by
    have h2 := h.trans HJ.out.block
    exact ⟨blk_cell h2 1, blk_cell h2 2⟩)
  have hB0 : w.drew.heap[b]? = w.heap[b]? := rfl
  have HA := Lib.hid hA
  clear hA
  have HLS := Lib.hid hls
  have HSL := Lib.hid hsl
  clear hls hsl
  go_enter Tryd.func26, Tryd.ntmps26
  go_wp2_with fail
  go_region_held3 (fun w' => w'.cell? ⟨b, 1, none⟩ = some (.int .i64 side) ∧ w'.cell? ⟨b, 2, none⟩ = some (.int .i64 turn))
    (first | exact HSS.out _ hB0 | exact HSS.out _ hB1)
    (first | (go_at_call 43; refine (frames_any _ ls _ hg.drew HLS.out.drew (by omega) HSL.out).mono ?_; rintro e w1 ⟨rfl, hb1⟩; have hB1 : w1.heap[b]? = w.heap[b]? := hb1.block b hb))
  have hblk1 := hB1.trans HJ.out.block
  have hb01 : Below w.heap.size w w1 := (Below.refl w.heap.size w).drew.trans hb1
  have hT1 : TapeAt w1 bas tb row st := hT0.below hb01
  have hown1 : OwnLines w1 bas lv l := pw_own_below HJ.out.own hb01
  have hg1 := hg.below hb01 hg.many
  have hls1 := HLS.out.below hb01
  have hF01 : FrJ w w1 b tb row := FrJ.of_below hb01
  have hbase := HJ.out.base
  have hlow := hT0.low
  have hps : (bs (Jr.frames (ls.map lb))).size ≤ 100020000 := Nat.le_trans (bs_frames_size ls HSL.out) (Nat.le_trans (Nat.mul_le_mul_right _ hln) (by decide))
  have HPE := Lib.hid (show (Jr.frames (ls.map lb)).length = (bs (Jr.frames (ls.map lb))).size from rfl)
  have HLS1 := Lib.hid hls1
  clear hB0 hB1 hb1 hb01 hT0 hls1
  have e1 : IntKind.i64.wrap (1 - side) = 1 - side := by rw [IntKind.wrap_i64]; omega
  have e2 : IntKind.i64.wrap (turn + 1) = turn + 1 := by rw [IntKind.wrap_i64]; omega
  rw [e1, e2]
  clear e1 e2
  generalize hp : bs (Jr.frames (ls.map lb)) = p at *
  have HP := Lib.hid hp
  clear hp
  have k0 : w1.cell? ⟨b, 0, none⟩ = some (.pointer (some ⟨tb, 0, none⟩)) := blk_cell hblk1 0
  go_wp2_with fail
  refine (wipe_any bas tb row st (1 - side) _ hT1 hok (Nat.le_trans hbs hF01.size)).mono ?_
  rintro e w2 ⟨rfl, row2, hT2, hr2, hF2⟩
  have hblk2 := hF2.keep hblk1 hne (fun e => hnr e.symm)
  have hown2 := own_fr hown1 hT1 hF2
  have hr02 : RowOk w row row2 := fun k hk => by
    rcases hr2 k hk with q | q
    · exact .inl q
    · exact .inr (Nat.le_trans hF01.size q)
  have hF02 : FrJ w w2 b tb row := hF01.trans (FrJ.of_fr hF2) (fun _ h => .inl h)
  generalize hwp : wipeF st (1 - side) = wd at *
  obtain ⟨st1, er⟩ := wd
  have HWP := Lib.hid hwp
  clear hwp hown1 hT1 hF2 hr2 hF01 hblk1 k0
  simp only at hT2 hok1 hok2 ⊢
  by_cases her : er = 0
  · subst her
    have hg2 := hg.frj hF02 (by omega) (by omega) (fun k hk => by have := hlow.2 k hk; omega)
    have hHH : w2.cell? ⟨b, 0, none⟩ = some (.pointer (some ⟨tb, 0, none⟩)) := blk_cell hblk2 0
    have hb2lt := blk_lt hblk2
    have HS5 := Lib.hid (show ∀ w' : World, w'.heap[b]? = w2.heap[b]? → w'.cell? ⟨b, 0, none⟩ = some (.pointer (some ⟨tb, 0, none⟩)) from fun w' h => blk_cell (h.trans hblk2) 0)
    have hC0 : w2.drew.heap[b]? = w2.heap[b]? := rfl
    have hTd : TapeAt w2.drew bas tb row2 st1 := hT2.below (Below.refl w2.heap.size w2).drew
    have i1 := itoa_size2 (n := turn + 1) (by omega) (by omega)
    have i2 := itoa_size2 (n := (p.size : Int)) (by omega) (by omega)
    have hbs2 : bas ≤ w2.heap.size := Nat.le_trans hbs hF02.size
    have hnr2 := rowok_ne hr02 hb hnr
    have hhs : (bs (Jr.headI (turn + 1) p.size)).size ≤ 1000 := by
      rw [← head_eq, ByteArray.size_append, ByteArray.size_append, ByteArray.size_append]
      have e3 : (⟨#[32]⟩ : ByteArray).size = 1 := rfl
      have e4 : (⟨#[59]⟩ : ByteArray).size = 1 := rfl
      omega
    clear hHH
    go_wp2_with fail
    go_region_held3 (fun w' => w'.cell? ⟨b, 0, none⟩ = some (.pointer (some ⟨tb, 0, none⟩)))
      (first | exact HS5.out _ hC0 | exact HS5.out _ hC1 | exact HS5.out _ hC1' | exact HS5.out _ hC2)
      (first | (go_at_call 38; refine (head_any (turn + 1) p.size (by omega) (by omega) (by omega) (by omega) i1 i2 _ hg2.drew).mono ?_; rintro e w3 ⟨rfl, hb3⟩; have hC1 : w3.heap[b]? = w2.heap[b]? := hb3.block b hb2lt; have hA3 := (Below.refl w3.heap.size w3).alloc (Nat.le_refl _) (Obj.cells #[.string (bs (Jr.headI (turn + 1) p.size)), .string p] 9); have hC1' := (hA3.block b (Nat.lt_of_lt_of_le hb2lt hb3.size)).trans hC1) | (go_at_call 44; refine (add_any bas tb row2 st1 (1 - side) _ [bs (Jr.headI (turn + 1) p.size), p] _ ((hTd.below hb3).below hA3) hok1.1 (Nat.le_trans hbs2 (Nat.le_trans hb3.size hA3.size)) (two_str w3 _ _ 9) (by simp) (by simp only [sizes, List.foldr_cons, List.foldr_nil]; omega)).mono ?_; rintro e w4 ⟨rfl, row4, hT4, hr4, hF4⟩; have hC2 : w4.heap[b]? = w2.heap[b]? := (hF4.block b (Nat.lt_of_lt_of_le hb2lt (Nat.le_trans hb3.size hA3.size)) hne (fun e => hnr2 e.symm)).trans hC1'))
    have hblk4 := hC2.trans hblk2
    have hb24 : Below w2.heap.size w2 (w3.alloc (.cells #[.string (bs (Jr.headI (turn + 1) p.size)), .string p] 9)) := ((Below.refl w2.heap.size w2).drew.trans hb3).trans (hA3.mono hb3.size)
    have hown4 := own_fr (pw_own_below hown2 hb24) (hT2.below hb24) hF4
    have hF04 : FrJ w w4 b tb row := hF02.trans ((FrJ.of_below (row := row2) hb24).trans (FrJ.of_fr hF4) (fun _ h => .inl h)) hr02
    have hr04 : RowOk w row row4 := RowOk.trans hr02 hr4 (Nat.le_trans hF02.size hb24.size)
    have hokA := hok2 [bs (Jr.headI (turn + 1) p.size), p]
    generalize had : addF st1 (1 - side) [bs (Jr.headI (turn + 1) p.size), p] = ad at *
    obtain ⟨st2, ea⟩ := ad
    have HAD := Lib.hid had
    have HF02 := Lib.hid hF02
    clear had hC0 hC1 hC1' hC2 hA3 hTd hF4 hr4 hb3 hb24 hown2 hT2 hF02 hblk2 i1 i2 hok2 hg2
    simp only at hT4 hokA ⊢
    have k40 : w4.cell? ⟨b, 0, none⟩ = some (.pointer (some ⟨tb, 0, none⟩)) := blk_cell hblk4 0
    by_cases hea : ea = 0
    · subst hea
      go_wp2_with fail
      refine (seal_any bas tb row4 st2 _ hT4 hokA).mono ?_
      rintro e w5 ⟨rfl, row5, hT5, hr5, hF5⟩
      have hblk5 := hF5.keep hblk4 hne (fun e => rowok_ne hr04 hb hnr e.symm)
      have hown5 := own_fr hown4 hT4 hF5
      have hr05 : RowOk w row row5 := RowOk.trans hr04 hr5 hF04.size
      have hF05 : FrJ w w5 b tb row := hF04.trans (FrJ.of_fr hF5) hr04
      have hls5 : LinesAt w5 (.slice A ls.length c) ls := HLS.out.frj hF05 HA.out
      generalize hseal : sealF st2 = sd at *
      obtain ⟨st3, es⟩ := sd
      have HSEAL := Lib.hid hseal
      clear hseal hown4 hT4 hF5 hr5 hF04 hblk4 k40
      simp only at hT5 ⊢
      by_cases hes : es = 0
      · subst hes
        have HBB := Lib.hid (show r = (st3, (1 - side, turn + 1, ls, dead), 0) from by
          rw [← HR.out]
          unfold anewB
          simp only
          rw [HWP.out]
          simp only [ne_eq, not_true_eq_false, if_false]
          rw [HPE.out, HP.out, HAD.out]
          simp only [not_true_eq_false, if_false]
          rw [HSEAL.out]
          rfl)
        have hb5lt := blk_lt hblk5
        go_wp2_with fail
        refine (clone_any (.slice A ls.length c) ls _ hls5 (by omega)).mono ?_
        rintro e w6 ⟨v', rfl, ho6, hb6⟩
        obtain ⟨A6, c6, rfl⟩ := own_slice ho6
        have hblk6 : w6.heap[b]? = some (.cells (jnCells tb side turn lv dead) 58 (0, 0)) := (hb6.block b hb5lt).trans hblk5
        have q1 : w6.cell? ⟨b, 1, none⟩ = some (.int .i64 side) := blk_cell hblk6 1
        have q2 : w6.cell? ⟨b, 2, none⟩ = some (.int .i64 turn) := blk_cell hblk6 2
        have q3 : w6.cell? ⟨b, 3, none⟩ = some lv := blk_cell hblk6 3
        have g1 : w6.frozen? ⟨b, 1, none⟩ = false := blk_frozen hblk6 1
        have g2 : w6.frozen? ⟨b, 2, none⟩ = false := blk_frozen hblk6 2
        have g3 : w6.frozen? ⟨b, 3, none⟩ = false := blk_frozen hblk6 3
        have hT6 := hT5.below hb6
        have hF06 := hF05.trans (FrJ.of_below (b := b) (tb := tb) (row := row5) hb6) hr05
        have ho6' : OwnLines w6 bas (.slice A6 ls.length c6) ls := own_weaken ho6 (Nat.le_trans hbs hF05.size)
        have hF67 : Fr w6 (((w6.setCell ⟨b, 1, none⟩ (.int .i64 (1 - side))).setCell ⟨b, 2, none⟩ (.int .i64 (turn + 1))).setCell ⟨b, 3, none⟩ (.slice A6 ls.length c6)) b none := (((Fr.refl _ _ _).set _ _).set _ _).set _ _
        have hB7 : (((w6.setCell ⟨b, 1, none⟩ (.int .i64 (1 - side))).setCell ⟨b, 2, none⟩ (.int .i64 (turn + 1))).setCell ⟨b, 3, none⟩ (.slice A6 ls.length c6)).heap[b]? = some (.cells (jnCells tb (1 - side) (turn + 1) (.slice A6 ls.length c6) dead) 58 (0, 0)) := blk_set (blk_set (blk_set hblk6 1 _) 2 _) 3 _
        have HJ7 := Lib.hid (show JAt _ bas b tb row5 (.slice A6 ls.length c6) st3 (1 - side) (turn + 1) ls dead from ⟨hB7, own_frb ho6' hblk6 hF67, hbase, hT6.frb hF67 hne (rowok_ne hr05 hb hnr), hne, rowok_ne hr05 hb hnr⟩)
        have HF07 := Lib.hid (hF06.trans (FrJ.of_fr' (tb := tb) (row := row) hF67) (fun _ h => .inl h))
        have HR05 := Lib.hid hr05
        have HN7 := Lib.hid (show RowOk w lv.ownBlock (Value.slice A6 ls.length c6).ownBlock from fun k hk => .inr (Nat.le_trans hF05.size (own_bound ho6 k hk)))
        clear hB7 hF67 ho6' hF06 hT6 hblk6 hb6 ho6 hT5 hF05 hls5 hown5 hblk5 hr05
        go_wp2
        go_ret
        rw [HBB.out]
        exact ⟨rfl, row5, _, HJ7.out, HR05.out, HF07.out, HN7.out⟩
      · have HBB := Lib.hid (show r = (st3, (side, turn, l, deadF dead es), es) from by
          rw [← HR.out]
          unfold anewB
          simp only
          rw [HWP.out]
          simp only [ne_eq, not_true_eq_false, if_false]
          rw [HPE.out, HP.out, HAD.out]
          simp only [not_true_eq_false, if_false]
          rw [HSEAL.out]
          exact if_pos hes)
        have hes2 : (es == 0) = false := by simpa using hes
        go_wp2_with fail
        refine (told_any b tb side turn lv dead es _ hblk5).mono ?_
        rintro e w6 ⟨rfl, hB6, hF6⟩
        have HJ6 := Lib.hid (show JAt w6 bas b tb row5 lv st3 side turn l (deadF dead es) from ⟨hB6, own_frb hown5 hblk5 hF6, hbase, hT5.frb hF6 hne (rowok_ne hr05 hb hnr), hne, rowok_ne hr05 hb hnr⟩)
        have HF06 := Lib.hid (show FrJ w w6 b tb row from hF05.trans (FrJ.of_fr' (row := row) hF6) (fun _ h => .inl h))
        clear hblk5 hB6 hF6 hT5 hown5 hF05 hls5
        go_wp2
        go_ret
        rw [HBB.out]
        exact ⟨rfl, row5, lv, HJ6.out, hr05, HF06.out, fun _ h => .inl h⟩
    · have HBB := Lib.hid (show r = (st2, (side, turn, l, deadF dead ea), ea) from by
        rw [← HR.out]
        unfold anewB
        simp only
        rw [HWP.out]
        simp only [ne_eq, not_true_eq_false, if_false]
        rw [HPE.out, HP.out, HAD.out]
        exact if_pos hea)
      have hea2 : (ea == 0) = false := by simpa using hea
      go_wp2_with fail
      refine (told_any b tb side turn lv dead ea _ hblk4).mono ?_
      rintro e w5 ⟨rfl, hB5, hF5⟩
      have HJ5 := Lib.hid (show JAt w5 bas b tb row4 lv st2 side turn l (deadF dead ea) from ⟨hB5, own_frb hown4 hblk4 hF5, hbase, hT4.frb hF5 hne (rowok_ne hr04 hb hnr), hne, rowok_ne hr04 hb hnr⟩)
      have HF05 := Lib.hid (show FrJ w w5 b tb row from hF04.trans (FrJ.of_fr' (row := row) hF5) (fun _ h => .inl h))
      clear hblk4 hB5 hF5 hT4 hown4 hF04
      go_wp2
      go_ret
      rw [HBB.out]
      exact ⟨rfl, row4, lv, HJ5.out, hr04, HF05.out, fun _ h => .inl h⟩
  · have HBB := Lib.hid (show r = (st1, (side, turn, l, deadF dead er), er) from by
      rw [← HR.out]
      unfold anewB
      simp only
      rw [HWP.out]
      exact if_pos her)
    have her2 : (er == 0) = false := by simpa using her
    go_wp2_with fail
    refine (told_any b tb side turn lv dead er _ hblk2).mono ?_
    rintro e w3 ⟨rfl, hB3, hF3⟩
    have HJ3 := Lib.hid (show JAt w3 bas b tb row2 lv st1 side turn l (deadF dead er) from ⟨hB3, own_frb hown2 hblk2 hF3, hbase, hT2.frb hF3 hne (rowok_ne hr02 hb hnr), hne, rowok_ne hr02 hb hnr⟩)
    have HF03 := Lib.hid (show FrJ w w3 b tb row from hF02.trans (FrJ.of_fr' (row := row) hF3) (fun _ h => .inl h))
    clear hblk2 hB3 hF3 hT2 hown2 hF02
    go_wp2
    go_ret
    rw [HBB.out]
    exact ⟨rfl, row2, lv, HJ3.out, hr02, HF03.out, fun _ h => .inl h⟩
end Go.Proofs.YtepcagakegbjfaaDoor
/- Walks of package journal: its lines; and what 'anew' is in plain words. -/
namespace Go.Proofs.YtepcagakegbjfaaDoor
open Go.RowKit Go.Proofs.YtepcagakegbjfaaDoorW.PrintWords
open Jr (bs lb bs_lb lb_bs bs_app okLine TapeSt addF sealF wipeF)

set_option maxHeartbeats 400000 in
theorem lines_any (bas b tb : Nat) (row : Option Nat) (lv : Value) (st : TapeSt) (side turn : Int) (l : List ByteArray) (dead : Bool) (w : World) (hJ : JAt w bas b tb row lv st side turn l dead) (hln : l.length ≤ 1000000) :
    Calls Tryd.prog 19 #[.pointer (some ⟨b, 0, none⟩)] w fun e w' => ∃ v, e = .returned v ∧ OwnLines w' w.heap.size v l ∧ Below w.heap.size w w' := by
  have k3 : w.cell? ⟨b, 3, none⟩ = some lv := blk_cell hJ.block 3
  have hl := hJ.own.lines
  have hb := blk_lt hJ.block
  clear hJ
  go_enter Tryd.func19, Tryd.ntmps19
  go_wp2_with fail
  refine (clone_any lv l _ hl hln).mono ?_
  rintro e w1 ⟨v, rfl, ho, hb1⟩
  have HO := Lib.hid ho
  have HB := Lib.hid hb1
  clear ho hb1 hl k3
  go_wp2
  go_ret
  exact ⟨v, rfl, HO.out, HB.out⟩
theorem anewB_eq (st : TapeSt) (side turn : Int) (l : List ByteArray) (dead : Bool) (ls : List ByteArray) :
    Jr.anewF st ⟨side, turn, l.map lb, dead⟩ (ls.map lb) = ((anewB st side turn l dead ls).1, ⟨(anewB st side turn l dead ls).2.1.1, (anewB st side turn l dead ls).2.1.2.1, (anewB st side turn l dead ls).2.1.2.2.1.map lb, (anewB st side turn l dead ls).2.1.2.2.2⟩, (anewB st side turn l dead ls).2.2) := by
  unfold Jr.anewF anewB
  simp only
  generalize wipeF st (1 - side) = wd
  obtain ⟨st1, er⟩ := wd
  simp only
  by_cases h : er = 0
  · subst h
    simp only [ne_eq, not_true_eq_false, if_false]
    generalize addF st1 (1 - side) [bs (Jr.headI (turn + 1) (Jr.frames (ls.map lb)).length), bs (Jr.frames (ls.map lb))] = ad
    obtain ⟨st2, ea⟩ := ad
    simp only
    by_cases h2 : ea = 0
    · subst h2
      simp only [not_true_eq_false, if_false]
      generalize sealF st2 = sd
      obtain ⟨st3, es⟩ := sd
      simp only
      by_cases h3 : es = 0
      · subst h3
        simp only [not_true_eq_false, if_false]
      · rw [if_pos h3, if_pos h3]
        rfl
    · rw [if_pos h2, if_pos h2]
      rfl
  · rw [if_pos h, if_pos h]
    rfl
end Go.Proofs.YtepcagakegbjfaaDoor
