/- A list of acts that comes in; what an act leaves; a fall by the reference. -/
import Derived.Test.YtallocndghjoeaaRfn
import Derived.Test.YtallocndghjoeaaRfe
import Derived.Test.YtallocndghjoeaaRfw
import Derived.Test.YtallocndghjoeaaRft
import Derived.ProofKit
namespace Go.Proofs.Ytallocndghjoeaa
open Go.RowKit Go.Proofs.YtallocndghjoeaaW.PrintWords
set_option linter.unusedVariables false

theorem rfall_any (base b : Nat) (row : Option Nat) (st : TapeSt) (room crash keep torn : Int) (w : World) (hT : RefAt w base b row st) (hok : st.Ok) (hbare : Bare st.loose) (hbs : base ≤ w.heap.size) :
    Calls Try.prog 24 #[.pointer (some ⟨b, 0, none⟩), .agg #[.int .i64 room, .int .i64 crash, .int .i64 keep, .int .i64 torn]] w
      fun e w' => e = .returned (.tuple #[]) ∧ ∃ row', RefAt w' base b row' (fallF st room crash keep torn) ∧ RowOk w row row' ∧ Fr w w' b row := by
  have hT0 := hT
  obtain ⟨sv, lv, hr, hbase, hB, hP, hO⟩ := hT
  have hpr := partF_range keep st.loose.length
  obtain ⟨k, hk⟩ : ∃ k : Nat, partF keep st.loose.length = k := ⟨(partF keep st.loose.length).toNat, by omega⟩
  have hkl : k ≤ st.loose.length := by omega
  have hmany := hok.many
  rcases hO.2 with ⟨hv, hn⟩ | ⟨g, cap, cur, hv, hbg, hh, h1, h2, h3, h4⟩
  · subst hv
    have hnil : st.loose = [] := List.length_eq_zero_iff.1 hn
    have hk0 : k = 0 := by omega
    subst hk0
    have hr' : row = none := hr.symm
    subst hr'
    rw [hn] at hO hk
    exact rfall_nil base b st room crash keep torn w hT0 sv hB hP hO hok hbare hbs hbase hk (by rw [hnil]; rfl) hn.symm
  · subst hv
    have hr' : row = some g := hr.symm
    subst hr'
    rcases Nat.lt_or_ge k st.loose.length with hlt | hge
    · obtain ⟨a0, a1, a2⟩ := cellsOf_get st.loose k hlt
      have hdr : st.loose.drop k = st.loose[k] :: st.loose.drop (k + 1) := List.drop_eq_getElem_cons hlt
      cases hw : st.loose[k].wipe with
      | true =>
        refine rfall_wipe base b st room crash keep torn w g cap k st.loose.length hlt h1 ?_ hT0 sv hB hP hO hok hbare hbs hbase hk ?_ rfl
        · rw [← hw]; exact (own_cells hO _ _ a1).1
        · unfold tornL; rw [hdr]; simp only [hw, if_true]
      | false =>
        refine rfall_torn base b st room crash keep torn w g cap k st.loose.length hlt h1 st.loose[k].side (st.loose.drop (k + 1)) (hok.side _ (List.getElem_mem hlt)) st.loose[k].more ?_ (mores_take st.loose k hlt) ?_ hT0 sv hB hP hO hok hbare hbs hbase hk rfl
        · have e1 := mores_take st.loose k hlt
          have e2 := hok.size
          omega
        · rw [hdr, ← hw]
    · have hkn : k = st.loose.length := by omega
      subst hkn
      have ht : tornL st.loose st.loose.length torn = st.loose.take st.loose.length := by unfold tornL; rw [List.drop_length]
      exact rfall_end base b st room crash keep torn w g cap st.loose.length h1 hT0 sv hB hP hO hok hbare hbs hbase hk ht rfl

theorem mem_weightsAll {H : Type} (P : Program) (e : TypeId) (ds : List (DataW H)) : ∀ (d : DataW H), d ∈ ds → ∀ n ∈ d.weights P e, n ∈ DataW.weightsAll P e ds := by
  induction ds with
  | nil => intro d hd; cases hd
  | cons x ds ih =>
    intro d hd n hn
    simp only [DataW.weightsAll, List.mem_append]
    rcases List.mem_cons.1 hd with rfl | hd
    · exact .inl hn
    · exact .inr (ih d hd n hn)

theorem strs_open2 {H : Type} {enc : TypeId × Value → H} {w : World} {v : Value} {d : DataW H} {p : List MemPlace} (hs : ∃ a n c, v = .slice a n c) (h : DataW.Trod enc Try.prog w 0 (fun _ => true) true 38 v d p)
    (hw : ∀ n ∈ d.weights Try.prog 38, n ≤ reachBytes) : ∃ l, StrsAt w v l ∧ ∀ s ∈ l, s.size ≤ reachBytes := by
  obtain ⟨fuel, hf⟩ := h
  obtain ⟨A, n, c, rfl⟩ := hs
  rcases Deep.open_strs Try.underlying38 Try.underlying9 (by kernel_rfl) hf with ⟨hcs, _⟩ | ⟨a, len, cap, m, Sx, hcs, _, hl, _, hm, hd, hx⟩
  · simp [Value.cells] at hcs
    obtain ⟨rfl, rfl, rfl⟩ := hcs
    exact ⟨[], .inl ⟨rfl, none, 0, rfl⟩, (by intro s hs; cases hs)⟩
  · simp [Value.cells] at hcs
    obtain ⟨rfl, rfl, rfl⟩ := hcs
    rcases Nat.eq_zero_or_pos n with h0 | h0
    · subst h0; exact ⟨[], .inl ⟨rfl, some a, c, rfl⟩, (by intro s hs; cases hs)⟩
    · have hml : n ≤ m := by rw [hm]; simp; exact hl
      have h1 := (hx 0 (by omega)).1
      rw [Addr.add_zero'] at h1
      obtain ⟨b, off, spot⟩ := a
      have hs : spot = none := World.cell?_spot h1
      subst hs
      refine ⟨(List.range n).map Sx, .inr ⟨b, off, c, by simp, World.block_lt_of_cell? w _ h1, fun k hk => ?_⟩, ?_⟩
      · have hk' : k < n := by simpa using hk
        have h2 := (hx k (by omega)).1
        have h3 : (⟨b, off, none⟩ : Addr).add k = ⟨b, off + k, none⟩ := by unfold Addr.add; split <;> simp_all
        rw [h3] at h2
        simpa using h2
      · intro s hs
        obtain ⟨i, hi, rfl⟩ := List.mem_map.1 hs
        have hd1 := congrArg Prod.fst hd
        simp only at hd1
        have h4 : (Sx i).data.toList.length ∈ d.weights Try.prog 38 := by
          rw [hd1]
          unfold DataW.weights
          rw [Try.underlying38]
          simp only [List.mem_cons, List.mem_append]
          refine .inr (.inl (mem_weightsAll _ _ _ _ (List.mem_map.2 ⟨i, hi, rfl⟩) _ ?_))
          simp [DataW.weights]
        have h5 := hw _ h4
        have h6 : (Sx i).size = (Sx i).data.toList.length := by rw [Array.length_toList]; rfl
        omega

structure Ac where
  act : Int
  side : Int
  lv : Value
  l : List ByteArray
  room : Int
  crash : Int
  keep : Int
  torn : Int
instance : Inhabited Ac := ⟨⟨0, 0, undef, [], 0, 0, 0, 0⟩⟩

structure AcAt (w : World) (ab off : Nat) (x : Ac) : Prop where
  act : w.cell? ⟨ab, off, none⟩ = some (.int .i64 x.act)
  side : w.cell? ⟨ab, off + 1, none⟩ = some (.int .i64 x.side)
  lv : w.cell? ⟨ab, off + 2, none⟩ = some x.lv
  room : w.cell? ⟨ab, off + 3, none⟩ = some (.int .i64 x.room)
  crash : w.cell? ⟨ab, off + 4, none⟩ = some (.int .i64 x.crash)
  keep : w.cell? ⟨ab, off + 5, none⟩ = some (.int .i64 x.keep)
  torn : w.cell? ⟨ab, off + 6, none⟩ = some (.int .i64 x.torn)
  strs : StrsAt w x.lv x.l
  reach : ∀ s ∈ x.l, s.size ≤ reachBytes
  slice : ∃ a c, x.lv = .slice a x.l.length c

def AcsAt (w : World) (v : Value) (l : List Ac) : Prop :=
  (l = [] ∧ ∃ A c, v = .slice A 0 c) ∨ ∃ ab ao c, v = .slice (some ⟨ab, ao, none⟩) l.length c ∧ ab < w.heap.size ∧ ∀ k (h : k < l.length), AcAt w ab (ao + k * 7) l[k]

theorem strs_len {w : World} {a : Option Addr} {n c : Nat} {l : List ByteArray} (h : StrsAt w (.slice a n c) l) : l.length = n := by
  rcases h with ⟨rfl, A, c', hv⟩ | ⟨lb, lo, c', hv, _⟩
  · injection hv with _ hn _; rw [hn]; rfl
  · injection hv with _ hn _; exact hn.symm

theorem int_cell {H : Type} {enc : TypeId × Value → H} {w : World} {base : Nat} {spare : Nat → Bool} {held : Bool} {fuel : Nat} {u : Value} {x : DataW H × List MemPlace} (h : DataW.trod enc Try.prog w base spare held fuel 3 [u] = some x) : ∃ n, u = .int .i64 n := by
  obtain ⟨n, h1, _⟩ := DataW.trod_int Try.underlying3 h
  simp at h1
  exact ⟨n, h1⟩

theorem ac_open {H : Type} {enc : TypeId × Value → H} {w : World} {fuel : Nat} {cs : List Value} {ab off : Nat} {d : DataW H} {pl : List MemPlace}
    (hc : ∀ j, j < 7 → w.cell? ⟨ab, off + j, none⟩ = cs[j]?) (h : DataW.trod enc Try.prog w 0 (fun _ => true) true fuel 45 cs = some (d, pl)) (hwt : ∀ n ∈ d.weights Try.prog 45, n ≤ reachBytes) : ∃ x, AcAt w ab off x := by
  obtain ⟨xs, n, rfl, hxd, hl, hxl, hf⟩ := DataW.trod_struct Try.underlying45 h
  have h7 : Try.prog.cellsOf 45 = 7 := by kernel_rfl
  rw [h7] at hl
  match cs, hl with
  | [c0, c1, c2, c3, c4, c5, c6], _ =>
    have g0 := hf 0 { name := "Do", type := 3, offset := 0, embedded := false, tag := "", pkgPath := "", byteOffset := 0 } rfl
    have g1 := hf 1 { name := "Side", type := 3, offset := 1, embedded := false, tag := "", pkgPath := "", byteOffset := 8 } rfl
    have g2 := hf 2 { name := "L", type := 38, offset := 2, embedded := false, tag := "", pkgPath := "", byteOffset := 16 } rfl
    have g3 := hf 3 { name := "Plan", type := 25, offset := 3, embedded := false, tag := "", pkgPath := "", byteOffset := 40 } rfl
    have e3 : Try.prog.cellsOf 3 = 1 := by kernel_rfl
    have e38 : Try.prog.cellsOf 38 = 1 := by kernel_rfl
    have e25 : Try.prog.cellsOf 25 = 4 := by kernel_rfl
    simp only [e3, e38, e25, List.drop_zero, List.drop_succ_cons, List.take_succ_cons, List.take_zero] at g0 g1 g2 g3
    have hx : xs.length = 4 := hxl
    obtain ⟨n0, rfl⟩ := int_cell (g0.trans (List.getElem?_eq_getElem (by omega)))
    obtain ⟨n1, rfl⟩ := int_cell (g1.trans (List.getElem?_eq_getElem (by omega)))
    have g2' := g2.trans (List.getElem?_eq_getElem (by omega))
    have g3' := g3.trans (List.getElem?_eq_getElem (by omega))
    obtain ⟨ys, n', rfl, _, _, hyl, hg⟩ := DataW.trod_struct Try.underlying25 g3'
    have k0 := hg 0 { name := "Room", type := 3, offset := 0, embedded := false, tag := "", pkgPath := "", byteOffset := 0 } rfl
    have k1 := hg 1 { name := "Crash", type := 3, offset := 1, embedded := false, tag := "", pkgPath := "", byteOffset := 8 } rfl
    have k2 := hg 2 { name := "Keep", type := 3, offset := 2, embedded := false, tag := "", pkgPath := "", byteOffset := 16 } rfl
    have k3 := hg 3 { name := "Torn", type := 3, offset := 3, embedded := false, tag := "", pkgPath := "", byteOffset := 24 } rfl
    simp only [e3, List.drop_zero, List.drop_succ_cons, List.take_succ_cons, List.take_zero] at k0 k1 k2 k3
    have hy : ys.length = 4 := hyl
    obtain ⟨m0, rfl⟩ := int_cell (k0.trans (List.getElem?_eq_getElem (by omega)))
    obtain ⟨m1, rfl⟩ := int_cell (k1.trans (List.getElem?_eq_getElem (by omega)))
    obtain ⟨m2, rfl⟩ := int_cell (k2.trans (List.getElem?_eq_getElem (by omega)))
    obtain ⟨m3, rfl⟩ := int_cell (k3.trans (List.getElem?_eq_getElem (by omega)))
    have hsl : ∃ a k c, c2 = .slice a k c := by
      rcases Deep.open_strs Try.underlying38 Try.underlying9 (by kernel_rfl) g2' with ⟨hcs, _⟩ | ⟨a, len, cap, m, Sx, hcs, _⟩
      · simp at hcs; exact ⟨_, _, _, hcs⟩
      · simp at hcs; exact ⟨_, _, _, hcs⟩
    have htr : DataW.Trod enc Try.prog w 0 (fun _ => true) true 38 c2 xs[2].1 xs[2].2 := ⟨n' + 1, by
      obtain ⟨a, k, c, rfl⟩ := hsl
      simpa [Value.cells] using g2'⟩
    have hw38 : ∀ n ∈ xs[2].1.weights Try.prog 38, n ≤ reachBytes := by
      intro n hn
      refine hwt n ?_
      have hd1 := congrArg Prod.fst hxd
      simp only at hd1
      rw [hd1]
      unfold DataW.weights
      rw [Try.underlying45]
      refine DataW.weights_mem_each (j := 2) (t := 38) (d := xs[2].1) rfl ?_ n hn
      rw [List.getElem?_map, List.getElem?_eq_getElem (by omega)]
      rfl
    obtain ⟨l, hlx, hlr⟩ := strs_open2 hsl htr hw38
    obtain ⟨a, k, c, rfl⟩ := hsl
    refine ⟨⟨n0, n1, .slice a k c, l, m0, m1, m2, m3⟩, hc 0 (by omega), hc 1 (by omega), hc 2 (by omega), hc 3 (by omega), hc 4 (by omega), hc 5 (by omega), hc 6 (by omega), hlx, hlr, a, c, ?_⟩
    rw [strs_len hlx]

theorem acs_open {H : Type} {enc : TypeId × Value → H} {w : World} {v : Value} {d : DataW H} {p : List MemPlace} (hs : ∃ a n c, v = .slice a n c) (h : DataW.Trod enc Try.prog w 0 (fun _ => true) true 41 v d p) (hw : ∀ n ∈ d.weights Try.prog 41, n ≤ reachBytes) : ∃ l, AcsAt w v l := by
  obtain ⟨fuel, hf⟩ := h
  obtain ⟨A, n, c, rfl⟩ := hs
  rcases Deep.open_slice Try.underlying41 hf with ⟨hcs, _⟩ | ⟨a, len, cap, m, n', D, Pl, hcs, _, hl, _, hm, hd, hx⟩
  · simp [Value.cells] at hcs
    obtain ⟨rfl, rfl, rfl⟩ := hcs
    exact ⟨[], .inl ⟨rfl, none, 0, rfl⟩⟩
  · simp [Value.cells] at hcs
    obtain ⟨rfl, rfl, rfl⟩ := hcs
    rcases Nat.eq_zero_or_pos n with h0 | h0
    · subst h0; exact ⟨[], .inl ⟨rfl, some a, c, rfl⟩⟩
    · have hml : n ≤ m := by rw [hm]; simp; exact hl
      have h7 : Try.prog.cellsOf 45 = 7 := by kernel_rfl
      rw [h7] at hx
      have hsp : a.spot = none := by
        obtain ⟨cs', h1, _⟩ := hx 0 (by omega)
        obtain ⟨_, hlen, hcell⟩ := World.cells?_some h1
        have h3 := hcell 0 (by omega)
        rw [List.getElem?_eq_getElem (by omega), Nat.zero_mul, Addr.add_zero', Addr.add_zero'] at h3
        exact World.cell?_spot h3
      obtain ⟨ab, ao, sp⟩ := a
      simp only at hsp
      subst hsp
      have hadd : ∀ j, (⟨ab, ao, none⟩ : Addr).add j = ⟨ab, ao + j, none⟩ := fun j => by unfold Addr.add; split <;> simp_all
      have hex : ∀ i, i < n → ∃ x, AcAt w ab (ao + i * 7) x := by
        intro i hi
        obtain ⟨cs', h1, h2⟩ := hx i (by omega)
        obtain ⟨_, hlen, hcell⟩ := World.cells?_some h1
        refine ac_open (fun j hj => by rw [← hcell j hj, Addr.add_add, hadd, Nat.add_assoc]) h2 (fun q hq => hw q ?_)
        have hd1 := congrArg Prod.fst hd
        simp only at hd1
        rw [hd1]
        unfold DataW.weights
        rw [Try.underlying41]
        simp only [List.mem_cons, List.mem_append]
        exact .inr (.inl (mem_weightsAll _ _ _ _ (List.mem_map.2 ⟨i, List.mem_range.2 hi, rfl⟩) _ hq))
      obtain ⟨F, hF⟩ := Deep.choose_lt hex
      have hlt : ab < w.heap.size := World.block_lt_of_cell? w _ (hF 0 h0).act
      refine ⟨(List.range n).map F, .inr ⟨ab, ao, c, by simp, hlt, fun k hk => ?_⟩⟩
      have hk' : k < n := by simpa using hk
      have := hF k hk'
      simpa using this
end Go.Proofs.Ytallocndghjoeaa
