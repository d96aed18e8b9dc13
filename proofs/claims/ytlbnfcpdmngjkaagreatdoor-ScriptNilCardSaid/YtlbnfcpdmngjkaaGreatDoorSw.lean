/- Walks of package want at one node: depths. -/
import Derived.Test.YtlbnfcpdmngjkaaGreatDoorSa
import Derived.Test.YtlbnfcpdmngjkaaGreatDoorL
import Derived.WalkKit
import Derived.LoopN
import Derived.Laws.IdiomRangeMap
import Derived.Lib.Hide
namespace Go.Proofs.YtlbnfcpdmngjkaaGreatDoor
open Go Go.Proofs Go.RowKit
set_option maxRecDepth 100000
set_option linter.unusedSimpArgs false
set_option maxHeartbeats 1000000

theorem cell_alloc {w : World} {a : Addr} {v : Value} (o : Obj) (h : w.cell? a = some v) : (w.alloc o).cell? a = some v :=
  (((Below.refl w.heap.size w).alloc (Nat.le_refl _) o).cell (World.block_lt_of_cell? w a h)).trans h
theorem cell_set {w : World} {a p : Addr} {v u : Value} (h : w.cell? a = some v) (hne : p ≠ a) : (w.setCell p u).cell? a = some v := by
  rw [World.cell?_setCell_other w p a u hne]; exact h
/-- One node, and a list of it, and depths. -/
structure One (D β q cap : Nat) (nm : ByteArray) (v2 v3 v4 : Int) (w : World) : Prop where
  d0 : w.cell? ⟨D, 0, none⟩ = some (.slice (some ⟨β, q, none⟩) 1 cap)
  df : w.frozen? ⟨D, 1, none⟩ = false
  c0 : w.cell? ⟨β, q, none⟩ = some (.string nm)
  c1 : w.cell? ⟨β, q + 1, none⟩ = some (.string ByteArray.empty)
  c2 : w.cell? ⟨β, q + 2, none⟩ = some (.int .i64 v2)
  c3 : w.cell? ⟨β, q + 3, none⟩ = some (.int .i64 v3)
  c4 : w.cell? ⟨β, q + 4, none⟩ = some (.int .i64 v4)
  ne : β ≠ D
theorem One.keep {D β q cap : Nat} {nm : ByteArray} {v2 v3 v4 : Int} {w w' : World} (h : One D β q cap nm v2 v3 v4 w) (hk : w'.heap[β]? = w.heap[β]?) (h0 : w'.cell? ⟨D, 0, none⟩ = w.cell? ⟨D, 0, none⟩) (hf : w'.frozen? ⟨D, 1, none⟩ = false) : One D β q cap nm v2 v3 v4 w' :=
  ⟨h0.trans h.d0, hf, (Ex.cell?_heap hk _).trans h.c0, (Ex.cell?_heap hk _).trans h.c1, (Ex.cell?_heap hk _).trans h.c2, (Ex.cell?_heap hk _).trans h.c3, (Ex.cell?_heap hk _).trans h.c4, h.ne⟩

theorem fill_any (D β q cap : Nat) (nm : ByteArray) (v2 v3 v4 : Int) (w : World) (H : RowKit.Hid (One D β q cap nm v2 v3 v4 w)) (hD1 : w.cell? ⟨D, 1, none⟩ = some (.map none)) :
    Calls Tryz.prog 181 #[.pointer (some ⟨D, 0, none⟩)] w fun e w' => (∃ v, e = .returned v) ∧ ∃ M, w.heap.size ≤ M ∧ w'.heap[M]? = some (.map #[{ key := .string nm, val := .int .i64 1, born := 0 }] 1) ∧ w'.cell? ⟨D, 1, none⟩ = some (.map (some M)) ∧ One D β q cap nm v2 v3 v4 w' ∧ Ex.Aside D w w' := by
  have hmm : ∀ (w : World), (Instr.makeMap 314 none).run Tryz.prog w = .ok (.map (some w.heap.size)) (w.alloc (.map #[] 0)) := fun w => run_makeMap_plain w 314
  have a1 : (w.alloc (.map #[] 0)).frozen? ⟨D, 1, none⟩ = false := (frozen?_alloc_map _ _ _ _).trans H.out.df
  have a2 : (w.alloc (.map #[] 0)).cell? ⟨D, 1, none⟩ = some (.map none) := cell_alloc _ hD1
  have hs := Lib.hid hD1
  clear hD1
  have b1 : RowKit.Hid (((w.alloc (.map #[] 0)).setCell ⟨D, 1, none⟩ (.map (some w.heap.size))).cell? ⟨D, 1, none⟩ = some (.map (some w.heap.size))) := World.cell?_setCell_same _ _ _ a2
  have b2 : RowKit.Hid (One D β q cap nm v2 v3 v4 ((w.alloc (.map #[] 0)).setCell ⟨D, 1, none⟩ (.map (some w.heap.size)))) := by
    have hβ := World.block_lt_of_cell? w _ H.out.c0
    refine H.out.keep ?_ ?_ ?_
    · rw [heap_setCell_other _ _ _ _ H.out.ne]
      exact ((Below.refl w.heap.size w).alloc (Nat.le_refl _) _).block _ hβ
    · exact (cell_set (cell_alloc _ H.out.d0) (by simp)).trans H.out.d0.symm
    · rw [World.frozen?_setCell]; exact a1
  have b3 : RowKit.Hid (((w.alloc (.map #[] 0)).setCell ⟨D, 1, none⟩ (.map (some w.heap.size))).heap[w.heap.size]? = some (.map #[] 0)) := by
    have hlt : D < w.heap.size := World.block_lt_of_cell? w _ hs.out
    show ((w.alloc (.map #[] 0)).setCell ⟨D, 1, none⟩ (.map (some w.heap.size))).heap[w.heap.size]? = some (.map #[] 0)
    rw [heap_setCell_other _ _ _ _ (by simp only; omega)]
    exact heap_alloc_new _ _
  have b4 : RowKit.Hid (Ex.Aside D w ((w.alloc (.map #[] 0)).setCell ⟨D, 1, none⟩ (.map (some w.heap.size)))) :=
    (Ex.Aside.of_below ((Below.refl w.heap.size w).alloc (Nat.le_refl _) _)).trans ⟨by simp [World.setCell], ⟨rfl, rfl, rfl⟩, fun β _ h => heap_setCell_other _ _ _ _ h⟩
  have b5 := b2.out.d0
  have hM : w.heap.size < ((w.alloc (.map #[] 0)).setCell ⟨D, 1, none⟩ (.map (some w.heap.size))).heap.size := by simp [World.size_setCell]
  go_enter Tryz.func181, Tryz.ntmps181
  go_wp2_with fail
  clear a1 a2 b5 hmm
  generalize ((w.alloc (.map #[] 0)).setCell ⟨D, 1, none⟩ (.map (some w.heap.size))) = W at *
  have d0 := b2.out.d0
  have c0 := b2.out.c0
  have c1 := b2.out.c1
  have c2 := b2.out.c2
  have c3 := b2.out.c3
  have c4 := b2.out.c4
  refine wp_loop_rounds 2 ?_
  rw [rounds_succ]
  go_wp2_with fail
  refine wp_loop_rounds 2 ?_
  rw [rounds_succ]
  go_wp2_with fail
  have e1 : (W.alloc (.cells #[.string nm, .string ByteArray.empty, .int .i64 v2, .int .i64 v3, .int .i64 v4] 236)).cell? ⟨D, 1, none⟩ = some (.map (some w.heap.size)) := cell_alloc _ b1.out
  have e2 : (W.alloc (.cells #[.string nm, .string ByteArray.empty, .int .i64 v2, .int .i64 v3, .int .i64 v4] 236)).cell? ⟨W.heap.size, 0, none⟩ = some (.string nm) := by simp
  have e3 : RowKit.Hid (Below W.heap.size W (W.alloc (.cells #[.string nm, .string ByteArray.empty, .int .i64 v2, .int .i64 v3, .int .i64 v4] 236))) := (Below.refl W.heap.size W).alloc (Nat.le_refl _) _
  have e4 : W.heap.size < (W.alloc (.cells #[.string nm, .string ByteArray.empty, .int .i64 v2, .int .i64 v3, .int .i64 v4] 236)).heap.size := by simp
  generalize (W.alloc (.cells #[.string nm, .string ByteArray.empty, .int .i64 v2, .int .i64 v3, .int .i64 v4] 236)) = W2 at *
  have hDW : D < W.heap.size := World.block_lt_of_cell? W _ d0
  have hDW2 : D < W2.heap.size := by omega
  clear d0 c0 c1 c2 c3 c4
  refine region_lay_tail 6 (by kernel_rfl) (by kernel_rfl) ?_
  simp only [List.take_succ_cons, List.take_zero, List.drop_succ_cons, List.drop_zero]
  repeat (go_big_quiet_step (fail))
  refine wpQuiet_nil ?_
  rintro _ ⟨zq, rfl⟩
  have hb := W2.lay_below zq
  have hm := run_mapUpdate_first (P := Tryz.prog) (W2.lay zq) 314 9 3 w.heap.size 0 nm (.int .i64 1) (by kernel_rfl) (by kernel_rfl) ((hb.block _ (by omega)).trans ((e3.out.block _ hM).trans b3.out))
  obtain ⟨W3, hW3⟩ : ∃ W3 : World, W3 = { W2.lay zq with heap := (W2.lay zq).heap.setIfInBounds w.heap.size (.map #[{ key := .string nm, val := .int .i64 1, born := 0 }] (0 + 1)) } := ⟨_, rfl⟩
  rw [← hW3] at hm
  have g1 : RowKit.Hid (∀ k, k ≠ w.heap.size → W3.heap[k]? = (W2.lay zq).heap[k]?) := fun k hk => by
    rw [hW3]
    simp only [Array.getElem?_setIfInBounds, if_neg (Ne.symm hk)]
  have g2 : RowKit.Hid (W3.heap[w.heap.size]? = some (.map #[{ key := .string nm, val := .int .i64 1, born := 0 }] 1)) := by
    have := hb.size
    have h : w.heap.size < (W2.lay zq).heap.size := by omega
    refine Lib.hid ?_
    rw [hW3]
    simp [Array.getElem?_setIfInBounds, h]
  have g3 : RowKit.Hid (W3.heap.size = (W2.lay zq).heap.size) := Lib.hid (by rw [hW3]; simp)
  have g4 : RowKit.Hid (Ex.Same (W2.lay zq) W3) := Lib.hid (by rw [hW3]; exact ⟨rfl, rfl, rfl⟩)
  clear hW3
  go_wp2_with fail
  clear hm
  rw [rounds_succ]
  go_wp2_with fail
  rw [rounds_succ]
  go_wp2_with fail
  go_end0
  have hsz := hb.size
  have hDw : D < w.heap.size := World.block_lt_of_cell? w _ hs.out
  have hβw : β < w.heap.size := World.block_lt_of_cell? w _ H.out.c0
  have hk : ∀ k, k < W.heap.size → k ≠ w.heap.size → W3.heap[k]? = W.heap[k]? := fun k h1 h2 => (g1.out k h2).trans ((hb.block k (by omega)).trans (e3.out.block k h1))
  refine ⟨⟨_, rfl⟩, w.heap.size, Nat.le_refl _, g2.out, ?_, ?_, ?_⟩
  · exact (Ex.cell?_heap (hk D hDW (by omega)) _).trans b1.out
  · exact b2.out.keep (hk β (by omega) (by omega)) (Ex.cell?_heap (hk D hDW (by omega)) _) ((Ex.frozen?_heap (hk D hDW (by omega)) _).trans b2.out.df)
  · refine ⟨by rw [g3.out]; omega, ⟨?_, ?_, ?_⟩, fun k h1 h2 => (hk k (by omega) (by omega)).trans (b4.out.keep k h1 h2)⟩
    · rw [g4.out.os, hb.os, e3.out.os, b4.out.still.os]
    · rw [g4.out.tape, hb.tape, e3.out.tape, b4.out.still.tape]
    · rw [g4.out.output, hb.output, e3.out.output, b4.out.still.output]
end Go.Proofs.YtlbnfcpdmngjkaaGreatDoor
/- Walks of package want at one node: is it a tree. -/
namespace Go.Proofs.YtlbnfcpdmngjkaaGreatDoor
open Go Go.Proofs Go.RowKit
set_option maxRecDepth 100000
set_option linter.unusedSimpArgs false
set_option linter.unusedVariables false
set_option maxHeartbeats 1000000

/-- A list of one node without a parent: where it lies, and what it is. -/
def oneOf (x : Ex.AV) (H : Ex.AH) : Option (Nat × Nat × Bool × List UInt8 × Int × Int × Int) := match x with
  | .slice b o n es fl => if n = 1 ∧ es = 5 then match Ex.loadA H b o 5 with
    | some [.str nm, .str [], .int .i64 v2, .int .i64 v3, .int .i64 v4] => some (b, o, fl, nm, v2, v3, v4)
    | _ => none
    else none
  | _ => none
theorem oneOf_ok {x : Ex.AV} {H : Ex.AH} {b o : Nat} {fl : Bool} {nm : List UInt8} {v2 v3 v4 : Int} (h : oneOf x H = some (b, o, fl, nm, v2, v3, v4)) : x = .slice b o 1 5 fl ∧ Ex.loadA H b o 5 = some [.str nm, .str [], .int .i64 v2, .int .i64 v3, .int .i64 v4] := by
  unfold oneOf at h
  split at h
  · split at h
    · rename_i hc
      split at h
      · rename_i hl
        simp only [Option.some.injEq, Prod.mk.injEq] at h
        obtain ⟨rfl, rfl, rfl, rfl, rfl, rfl, rfl⟩ := h
        exact ⟨by rw [hc.1, hc.2], hl⟩
      · cases h
    · cases h
  · cases h
theorem callWp_calls {P : Program} {f : FuncId} {args : List Value} {w : World} {K : Value → World → Prop} (h : Ex.CallWp P f args w K) {fn : Func} {c : Code} (h1 : P.funcs[f]? = some fn) (h2 : fn.body = some c) (h3 : fn.name ≠ "runtime.NumGoroutine") : Calls P f args.toArray w fun e w' => ∃ v, e = .returned v ∧ K v w' := by
  unfold Ex.CallWp at h
  rw [Ex.callFunc_run h1 h2 h3] at h
  exact h
/-- What the runner says of a call, as a contract. -/
theorem said {E : Ex.Env} (hP : E.P = Tryz.prog) {call : Ex.CallF} (hc : Ex.CallOk E call) {f : FuncId} {fn : Func} (h1 : Tryz.prog.funcs[f]? = some fn) (h2 : fn.body.isSome = true) (h3 : fn.name ≠ "runtime.NumGoroutine") {args : List Ex.AV} {H H' : Ex.AH} {v : Ex.AV} (hr : call f args H = some (v, H'))
    {γ : Ex.Cx} {N : Nat} {w : World} {args' : List Value} (hrel : Ex.Rel E γ N H.bs.get w) (hN : N ≤ w.heap.size) (hargs : Ex.VRs γ args args') (hf : ∀ id, H.n ≤ id → id < H'.n → γ.loc id = none) :
    Calls Tryz.prog f args'.toArray w fun e w' => ∃ v', e = .returned v' ∧ ∃ γ', Ex.VR γ' v v' ∧ Ex.Rel E γ' N H'.bs.get w' ∧ Ex.Nxt γ H.bs.get w H.n γ' H'.bs.get w' H'.n := by
  obtain ⟨c, h2⟩ := Option.isSome_iff_exists.1 h2
  have := hc hr hrel hN hargs hf
  rw [hP] at this
  exact callWp_calls this h1 h2 h3

/-- What the runner's slice of one node is to the machine. -/
theorem one_cells {E : Ex.Env} {γ : Ex.Cx} {N : Nat} {H : Ex.AH} {w : World} (h : Ex.Rel E γ N H.bs.get w) {b o : Nat} {nm : List UInt8} {v2 v3 v4 : Int} (hl : Ex.loadA H b o 5 = some [.str nm, .str [], .int .i64 v2, .int .i64 v3, .int .i64 v4]) {β ω σ : Nat} (hb : γ.loc b = some (β, ω, σ)) :
    w.cell? ⟨β, ω + o, none⟩ = some (.string ⟨nm.toArray⟩) ∧ w.cell? ⟨β, ω + o + 1, none⟩ = some (.string ByteArray.empty) ∧ w.cell? ⟨β, ω + o + 2, none⟩ = some (.int .i64 v2) ∧ w.cell? ⟨β, ω + o + 3, none⟩ = some (.int .i64 v3) ∧ w.cell? ⟨β, ω + o + 4, none⟩ = some (.int .i64 v4) := by
  obtain ⟨_, hc⟩ := Ex.loadA_cells h hl hb
  obtain ⟨_, a0, r0⟩ := hc 0 _ rfl
  obtain ⟨_, a1, r1⟩ := hc 1 _ rfl
  obtain ⟨_, a2, r2⟩ := hc 2 _ rfl
  obtain ⟨_, a3, r3⟩ := hc 3 _ rfl
  obtain ⟨_, a4, r4⟩ := hc 4 _ rfl
  cases r0; cases r1; cases r2; cases r3; cases r4
  exact ⟨a0, a1, a2, a3, a4⟩

theorem check_any {E : Ex.Env} (hP : E.P = Tryz.prog) {call : Ex.CallF} (hc : Ex.CallOk E call) (hnum : Ex.NumOk call) {b o : Nat} {fl fl' : Bool} {nm nm' : List UInt8} {v2 v3 v4 v2' v3' v4' : Int} {H H1 H2 : Ex.AH}
    (h0 : Ex.loadA H b o 5 = some [.str nm, .str [], .int .i64 v2, .int .i64 v3, .int .i64 v4]) (h1 : call 179 [.agg [.slice b o 1 5 fl]] H = some (.int .i64 0, H1))
    (h2 : Ex.loadA H1 b o 5 = some [.str nm', .str [], .int .i64 v2', .int .i64 v3', .int .i64 v4']) (h3 : call 182 [.agg [.slice b o 1 5 fl]] H1 = some (.int .i64 0, H2))
    {γ : Ex.Cx} {N : Nat} {w : World} (hrel : Ex.Rel E γ N H.bs.get w) (hN : N ≤ w.heap.size) {s : Value} (hs : Ex.VR γ (.slice b o 1 5 fl) s) (hf : ∀ id, H.n ≤ id → id < H2.n → γ.loc id = none) :
    Calls Tryz.prog 122 #[s] w fun e w' => ∃ v', e = .returned v' ∧ ∃ γ', Ex.VR γ' (.int .i64 0) v' ∧ Ex.Rel E γ' N H2.bs.get w' ∧ Ex.Nxt γ H.bs.get w H.n γ' H2.bs.get w' H2.n := by
  have n1 := hnum h1
  have n2 := hnum h3
  cases hs with
  | slice hl hle hfull hA hfit =>
  rename_i β ω σ cap A
  have hAd : A = ⟨β, ω + o, none⟩ := hA (by omega)
  subst hAd
  have hW1 : Below w.heap.size w (w.alloc (.cells #[.slice (some ⟨β, ω + o, none⟩) 1 cap, .map none] 316)) := (Below.refl w.heap.size w).alloc (Nat.le_refl _) _
  have hrel1 : Ex.Rel E γ N H.bs.get (w.alloc (.cells #[.slice (some ⟨β, ω + o, none⟩) 1 cap, .map none] 316)) :=
    hrel.aside (D := w.heap.size) (Ex.Aside.of_below hW1) (fun id k l hk hl e => by have := (hrel.low hl).2; omega) hN hN
  have HREL := Lib.hid hrel
  have HREL1 := Lib.hid hrel1
  have HF := Lib.hid hf
  have HL := Lib.hid hl
  clear hrel hrel1 hf hl
  go_enter Tryz.func122, Tryz.ntmps122
  go_wp2_with fail
  refine (said hP hc Tryz.func179 (by kernel_rfl) (by decide) h1 HREL1.out (by simp; omega) (.cons (.agg (.cons (.slice HL.out hle hfull (fun _ => rfl) hfit) .nil)) .nil) (fun id a b => HF.out id a (by omega))).mono ?_
  rintro e w2 ⟨v, rfl, γ1, hv, hrel2, hnx1⟩
  cases hv
  have hoff : ∀ id k l, H.bs.get id = some k → γ.loc id = some l → l.1 ≠ w.heap.size := fun id k l hk hl e => by have := (HREL.out.low hl).2; omega
  have hkeep := hnx1.keep w.heap.size (by simp) hoff
  have hoff1 : ∀ id k l, H1.bs.get id = some k → γ1.loc id = some l → l.1 ≠ w.heap.size := Ex.off_made hnx1 (by simp) hoff
  obtain ⟨c0, c1, c2, c3, c4⟩ := one_cells hrel2 h2 (hnx1.le.loc HL.out)
  have d0 : w2.cell? ⟨w.heap.size, 0, none⟩ = some (.slice (some ⟨β, ω + o, none⟩) 1 cap) := (Ex.cell?_heap hkeep 0).trans (by simp)
  have d1 : w2.cell? ⟨w.heap.size, 1, none⟩ = some (.map none) := (Ex.cell?_heap hkeep 1).trans (by simp)
  have df : w2.frozen? ⟨w.heap.size, 1, none⟩ = false := (Ex.frozen?_heap hkeep 1).trans (by simp)
  have hsz : w.heap.size < w2.heap.size := by have := hnx1.size; simp at this; omega
  have hβ : β < w.heap.size := (HREL.out.low HL.out).2
  have ONE : RowKit.Hid (One w.heap.size β (ω + o) cap ⟨nm'.toArray⟩ v2' v3' v4' w2) := ⟨d0, df, c0, c1, c2, c3, c4, by omega⟩
  have HREL2 := Lib.hid hrel2
  have HNX1 := Lib.hid (hnx1.ahead (Ex.Aside.of_below (D := w.heap.size) hW1) (Nat.le_refl _))
  have HD1 := Lib.hid d1
  have HOFF1 := Lib.hid hoff1
  clear hrel2 hkeep hoff hoff1 hnx1 d1 df
  go_wp2_with fail
  refine wp_loop_rounds 2 ?_
  rw [rounds_succ]
  go_wp2_with fail
  have e1 : (w2.alloc (.cells #[.string ⟨nm'.toArray⟩, .string ByteArray.empty, .int .i64 v2', .int .i64 v3', .int .i64 v4'] 236)).cell? ⟨w2.heap.size, 1, none⟩ = some (.string ByteArray.empty) := by simp
  have HB3 : RowKit.Hid (Below w2.heap.size w2 (w2.alloc (.cells #[.string ⟨nm'.toArray⟩, .string ByteArray.empty, .int .i64 v2', .int .i64 v3', .int .i64 v4'] 236))) := (Below.refl w2.heap.size w2).alloc (Nat.le_refl _) _
  have e4 : w2.heap.size < (w2.alloc (.cells #[.string ⟨nm'.toArray⟩, .string ByteArray.empty, .int .i64 v2', .int .i64 v3', .int .i64 v4'] 236)).heap.size := by simp
  have e5 : (w2.alloc (.cells #[.string ⟨nm'.toArray⟩, .string ByteArray.empty, .int .i64 v2', .int .i64 v3', .int .i64 v4'] 236)).cell? ⟨w.heap.size, 0, none⟩ = some (.slice (some ⟨β, ω + o, none⟩) 1 cap) := cell_alloc _ d0
  have e6 : w.heap.size < (w2.alloc (.cells #[.string ⟨nm'.toArray⟩, .string ByteArray.empty, .int .i64 v2', .int .i64 v3', .int .i64 v4'] 236)).heap.size := by simp; omega
  generalize (w2.alloc (.cells #[.string ⟨nm'.toArray⟩, .string ByteArray.empty, .int .i64 v2', .int .i64 v3', .int .i64 v4'] 236)) = W3 at *
  clear d0 c0 c1 c2 c3 c4
  refine region_lay (by kernel_rfl) (by kernel_rfl) ?_
  repeat (go_big_quiet_step (fail))
  refine wpQuiet_nil ?_
  rintro _ ⟨zq, rfl⟩
  have HB4 := Lib.hid (HB3.out.trans ((W3.lay_below zq).mono (by omega)))
  have hsz4 := (W3.lay_below zq).size
  generalize W3.lay zq = W4 at *
  go_wp2_with fail
  rw [rounds_succ]
  go_wp2_with fail
  have one4 : One w.heap.size β (ω + o) cap ⟨nm'.toArray⟩ v2' v3' v4' W4 :=
    ONE.out.keep (HB4.out.block _ (by omega)) (Ex.cell?_heap (HB4.out.block _ hsz) 0) ((Ex.frozen?_heap (HB4.out.block _ hsz) 1).trans ONE.out.df)
  have hd14 : W4.cell? ⟨w.heap.size, 1, none⟩ = some (.map none) := (Ex.cell?_heap (HB4.out.block _ hsz) 1).trans HD1.out
  refine (fill_any _ _ _ _ _ _ _ _ _ (Lib.hid one4) hd14).mono ?_
  clear one4 hd14
  rintro e w5 ⟨⟨v, rfl⟩, M, hM, hmap, hd1, one5, aside⟩
  have HM := Lib.hid hmap
  have ONE5 := Lib.hid one5
  have HX := Lib.hid aside
  have HD5 := Lib.hid hd1
  have d0 := one5.d0
  have c0 := one5.c0
  have c1 := one5.c1
  have c2 := one5.c2
  have c3 := one5.c3
  have c4 := one5.c4
  clear hmap hd1 one5 aside
  go_wp2_with fail
  refine wp_loop_rounds 2 ?_
  rw [rounds_succ]
  go_wp2_with fail
  have hsz5 := HX.out.size
  have k0 : (w5.alloc (.cells #[.string ⟨nm'.toArray⟩, .string ByteArray.empty, .int .i64 v2', .int .i64 v3', .int .i64 v4'] 236)).cell? ⟨w5.heap.size, 0, none⟩ = some (.string ⟨nm'.toArray⟩) := by simp
  have HB6 : RowKit.Hid (Below w5.heap.size w5 (w5.alloc (.cells #[.string ⟨nm'.toArray⟩, .string ByteArray.empty, .int .i64 v2', .int .i64 v3', .int .i64 v4'] 236))) := (Below.refl w5.heap.size w5).alloc (Nat.le_refl _) _
  have k4 : w5.heap.size < (w5.alloc (.cells #[.string ⟨nm'.toArray⟩, .string ByteArray.empty, .int .i64 v2', .int .i64 v3', .int .i64 v4'] 236)).heap.size := by simp
  have k5 : (w5.alloc (.cells #[.string ⟨nm'.toArray⟩, .string ByteArray.empty, .int .i64 v2', .int .i64 v3', .int .i64 v4'] 236)).cell? ⟨w.heap.size, 1, none⟩ = some (.map (some M)) := cell_alloc _ HD5.out
  have k6 : w.heap.size < (w5.alloc (.cells #[.string ⟨nm'.toArray⟩, .string ByteArray.empty, .int .i64 v2', .int .i64 v3', .int .i64 v4'] 236)).heap.size := by simp; omega
  have hMlt : M < w5.heap.size := (Array.getElem?_eq_some_iff.1 HM.out).1
  have HM6 : RowKit.Hid ((w5.alloc (.cells #[.string ⟨nm'.toArray⟩, .string ByteArray.empty, .int .i64 v2', .int .i64 v3', .int .i64 v4'] 236)).heap[M]? = some (.map #[{ key := .string ⟨nm'.toArray⟩, val := .int .i64 1, born := 0 }] 1)) := (HB6.out.block _ hMlt).trans HM.out
  generalize (w5.alloc (.cells #[.string ⟨nm'.toArray⟩, .string ByteArray.empty, .int .i64 v2', .int .i64 v3', .int .i64 v4'] 236)) = W6 at *
  clear d0 c0 c1 c2 c3 c4
  have hlk : ∀ z, (Instr.lookup 314 (.map (some M)) (.string ⟨nm'.toArray⟩) false).run Tryz.prog (W6.lay z) = .ok (.int .i64 1) (W6.lay z) := fun z => Ex.run_lookup_one (kt := 9) (et := 3) (by kernel_rfl) (by kernel_rfl) (((W6.lay_below z).block M (by omega)).trans HM6.out)
  refine region_lay (by kernel_rfl) (by kernel_rfl) ?_
  repeat (go_big_quiet_step (fail))
  refine wpQuiet_nil ?_
  rintro _ ⟨zq2, rfl⟩
  have hb7 := W6.lay_below zq2
  have k7 := hb7.size
  have HX7 : RowKit.Hid (Ex.Aside w.heap.size w2 (W6.lay zq2)) := ((Ex.Aside.of_below HB4.out).trans HX.out).trans (Ex.Aside.of_below (HB6.out.trans (hb7.mono (by omega))))
  have k8 : (W6.lay zq2).cell? ⟨w.heap.size, 0, none⟩ = some (.slice (some ⟨β, ω + o, none⟩) 1 cap) :=
    (Ex.cell?_heap (hb7.block _ (by omega)) 0).trans ((Ex.cell?_heap (HB6.out.block _ (by omega)) 0).trans ONE5.out.d0)
  clear hlk hb7
  generalize W6.lay zq2 = W7 at *
  go_wp2_with fail
  rw [rounds_succ]
  go_wp2_with fail
  have hrel7 : Ex.Rel E γ1 N H1.bs.get W7 := HREL2.out.aside HX7.out HOFF1.out hN (by omega)
  have hnx7 : Ex.Nxt γ H.bs.get w H.n γ1 H1.bs.get W7 H1.n := HNX1.out.aside HX7.out (Nat.le_refl _)
  refine (said hP hc Tryz.func182 (by kernel_rfl) (by decide) h3 hrel7 (by omega) (.cons (.agg (.cons (.slice (HNX1.out.le.loc HL.out) hle hfull (fun _ => rfl) hfit) .nil)) .nil) (Ex.free_rest hnx7 n2 HF.out)).mono ?_
  rintro e w8 ⟨v8, rfl, γ2, hv8, hrel8, hnx8⟩
  cases hv8
  have HR8 := Lib.hid hrel8
  have HN8 := Lib.hid (hnx7.trans hnx8)
  clear hrel7 hnx7 hrel8 hnx8
  go_wp2_with fail
  go_ret
  exact ⟨_, rfl, γ2, .int _ _, HR8.out, HN8.out⟩
end Go.Proofs.YtlbnfcpdmngjkaaGreatDoor

/- Walks of package want at one node: the top. -/
namespace Go.Proofs.YtlbnfcpdmngjkaaGreatDoor
open Go Go.Proofs Go.RowKit
set_option maxRecDepth 100000
set_option linter.unusedSimpArgs false
set_option linter.unusedVariables false
set_option maxHeartbeats 1000000

theorem ins_any (A : Option Addr) (cap : Nat) (f : Fn) (c : Array Value) (w : World) : Calls Tryz.prog 326 #[.slice A 1 cap, .int .i64 0, .int .i64 1, .func f #[] c] w fun e w' => (∃ v, e = .returned v) ∧ w' = w := by
  go_enter Tryz.func326, Tryz.ntmps326
  go_wp2_with fail
  refine wp_loop_rounds 1 ?_
  rw [rounds_succ]
  go_wp2_with fail
  go_end0
  exact ⟨⟨_, rfl⟩, rfl⟩
theorem stable_any (A : Option Addr) (cap : Nat) (f : Fn) (c : Array Value) (w : World) : Calls Tryz.prog 258 #[.slice A 1 cap, .int .i64 1, .func f #[] c] w fun e w' => (∃ v, e = .returned v) ∧ w' = w := by
  go_enter Tryz.func258, Tryz.ntmps258
  go_wp2_with fail
  refine wp_loop_rounds 1 ?_
  rw [rounds_succ]
  go_wp2_with fail
  refine (ins_any A cap f c w).mono ?_
  rintro e w' ⟨⟨v, rfl⟩, rfl⟩
  go_wp2_with fail
  refine wp_loop_rounds 1 ?_
  rw [rounds_succ]
  go_wp2_with fail
  go_end0
  exact ⟨⟨_, rfl⟩, rfl⟩
theorem sort_any (A : Option Addr) (cap : Nat) (f : Fn) (c : Array Value) (w : World) : Calls Tryz.prog 185 #[.slice A 1 cap, .func f #[] c] w fun e w' => (∃ v, e = .returned v) ∧ w' = w := by
  go_enter Tryz.func185, Tryz.ntmps185
  go_wp2_with fail
  refine (stable_any A cap f c w).mono ?_
  rintro e w' ⟨⟨v, rfl⟩, rfl⟩
  go_wp2_with fail
  go_end0
  exact ⟨⟨_, rfl⟩, rfl⟩
theorem made_any (β q cap : Nat) (nm : ByteArray) (v2 v3 v4 : Int) (w : World) (h0 : w.cell? ⟨β, q, none⟩ = some (.string nm)) (h1 : w.cell? ⟨β, q + 1, none⟩ = some (.string ByteArray.empty)) (h2 : w.cell? ⟨β, q + 2, none⟩ = some (.int .i64 v2)) (h3 : w.cell? ⟨β, q + 3, none⟩ = some (.int .i64 v3)) (h4 : w.cell? ⟨β, q + 4, none⟩ = some (.int .i64 v4)) :
    Calls Tryz.prog 183 #[.slice (some ⟨β, q, none⟩) 1 cap] w fun e w' => e = .returned (.pointer (some ⟨w.heap.size, 0, none⟩)) ∧ Below w.heap.size w w' := by
  have hβ : β < w.heap.size := World.block_lt_of_cell? w _ h0
  have hd1 : (w.alloc (.cells #[.slice (some ⟨β, q, none⟩) 1 cap, .map none] 316)).cell? ⟨w.heap.size, 1, none⟩ = some (.map none) := by simp
  have ONE : RowKit.Hid (One w.heap.size β q cap nm v2 v3 v4 (w.alloc (.cells #[.slice (some ⟨β, q, none⟩) 1 cap, .map none] 316))) := ⟨by simp, by simp, cell_alloc _ h0, cell_alloc _ h1, cell_alloc _ h2, cell_alloc _ h3, cell_alloc _ h4, by omega⟩
  have HB : RowKit.Hid (Below w.heap.size w (w.alloc (.cells #[.slice (some ⟨β, q, none⟩) 1 cap, .map none] 316))) := (Below.refl w.heap.size w).alloc (Nat.le_refl _) _
  clear h0 h1 h2 h3 h4
  go_enter Tryz.func183, Tryz.ntmps183
  go_wp2_with fail
  refine (fill_any _ _ _ _ _ _ _ _ _ ONE hd1).mono ?_
  rintro e w' ⟨⟨v, rfl⟩, M, hM, hmap, hd, one, aside⟩
  have HX := Lib.hid aside
  clear hmap hd one aside
  go_wp2_with fail
  go_ret
  refine ⟨rfl, HB.out.trans ⟨HX.out.still.os, HX.out.still.tape, HX.out.still.output, HX.out.size, fun k hk => HX.out.keep k (by simp; omega) (by omega)⟩⟩
end Go.Proofs.YtlbnfcpdmngjkaaGreatDoor
