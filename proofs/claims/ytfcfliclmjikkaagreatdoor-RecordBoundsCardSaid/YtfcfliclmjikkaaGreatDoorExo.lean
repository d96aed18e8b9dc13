/- The plain runner: appends, copies, the least and the greatest. -/
import Derived.Test.YtfcfliclmjikkaaGreatDoorExn
import Derived.Deep.Upon
namespace Go.Proofs.YtfcfliclmjikkaaGreatDoor.Ex
open Go
set_option linter.unusedVariables false
set_option linter.unusedSimpArgs false
section
variable {E : Env} {γ : Cx} {N : Nat} {H : AH} {w : World} {F : Fr} {a : Act}

/-- A row that grows where it lies. -/
theorem grow_here (h : Rel E γ N H.bs.get w) {b o m n size : Nat} {l : List AV} {r : R} (hr : growA H b o m n size false l = some r) (hall : l.all okc = true) (hfree : γ.loc H.n = none)
    {β ω σ : Nat} (hloc : γ.loc b = some (β, ω, σ)) {news : List Value} (hnews : VRs γ l news) (hnl : news.length = n * size) {cap : Nat} (hcap : m + n ≤ cap) (hfit : ω + o + cap * size ≤ σ)
    {s : Sem Value} (hs : s.run E.P w = .ok (.slice (some ⟨β, ω + o, none⟩) (m + n) cap) (w.setCells β (ω + o + m * size) news)) : Does E γ N H w (asNext s) r := by
  unfold growA at hr
  cases hk : H.bs.get b with
  | none => simp [hk] at hr
  | some k =>
    simp only [hk] at hr
    split at hr
    · rename_i hlen
      obtain ⟨β', ω', σ', hb⟩ := h.blk hk
      obtain ⟨rfl, rfl, rfl⟩ := hb.fun hloc
      have hlen2 := hnews.length
      have hmn : (m + n) * size ≤ cap * size := Nat.mul_le_mul_right _ hcap
      rw [Nat.add_mul] at hmn
      have hle := Cx.le_bind (β', ω' + o, σ') hfree
      have hin : ∀ j, j < news.length → (w.cell? ⟨β', ω' + o + m * size + j, none⟩).isSome = true := fun j hj => (hb.there _ (by omega)).1
      have key : ∀ cells : Tr AV, (∀ i, i < m * size → cells.get i = k.cells.get (o + i)) → (∀ i, m * size ≤ i → i < m * size + l.length → cells.get i = l[i - m * size]?) →
          Does E γ N H w (asNext s) (.val (.slice H.n 0 (m + n) size false) ⟨H.n + 1, (H.bs.del b).set H.n ⟨m * size + l.length, cells⟩⟩) := fun cells c1 c2 => by
        have hB : RelB (γ.bind H.n (β', ω' + o, σ')) (w.setCells β' (ω' + o + m * size) news) H.n ⟨m * size + l.length, cells⟩ β' (ω' + o) σ' := by
          refine ⟨Cx.bind_same _ _ _, by simp only; omega, fun i hi => ?_, fun i hi => ?_⟩
          · rw [World.frozen?_setCells]
            refine ⟨?_, (hb.there i hi).2⟩
            by_cases hx : ω' + o + m * size ≤ i ∧ i < ω' + o + m * size + news.length
            · obtain ⟨j, rfl⟩ : ∃ j, i = ω' + o + m * size + j := ⟨i - (ω' + o + m * size), by omega⟩
              rw [World.cell?_setCells_in β' news _ w hin j (by omega)]
              rfl
            · rw [World.cell?_setCells_out β' news _ w _ (fun _ _ => by simp only; omega)]
              exact (hb.there i hi).1
          · simp only at hi
            by_cases hx : m * size ≤ i
            · obtain ⟨av, hav⟩ : ∃ av, l[i - m * size]? = some av := ⟨l[i - m * size]'(by omega), by simp⟩
              obtain ⟨v, v1, v2⟩ := hnews.get _ hav
              refine ⟨v, av, by simp only; rw [c2 i hx hi]; exact hav, List.all_eq_true.1 hall av (List.mem_of_getElem? hav), ?_, v2.mono hle⟩
              rw [show ω' + o + i = ω' + o + m * size + (i - m * size) by omega, World.cell?_setCells_in β' news _ w hin _ (by omega), ← v1]
              simp
            · obtain ⟨v, av, e1, e2, e3, e4⟩ := hb.cell (o + i) (by omega)
              refine ⟨v, av, by simp only; rw [c1 i (by omega)]; exact e1, e2, ?_, e4.mono hle⟩
              rw [World.cell?_setCells_out β' news _ w _ (fun _ _ => by simp only; omega), Nat.add_assoc]
              exact e3
        have hR := rel_rename (id := H.n) h hk hloc hfree (size_setCells _ _ _ _) (fun i hi => heap_setCells _ _ _ _ _ hi) hB (same_setCells _ _ _ _)
        have hfun : hset (fun j => if j = b then none else H.bs.get j) H.n ⟨m * size + l.length, cells⟩ = ((H.bs.del b).set H.n ⟨m * size + l.length, cells⟩).get := by
          rw [Tr.get_set_fun]
          congr 1
          funext j
          by_cases hj : j = b
          · subst hj; rw [if_pos rfl, Tr.get_del_same]
          · rw [if_neg hj, Tr.get_del_ne _ (Ne.symm hj)]
        rw [hfun] at hR
        exact ⟨_, _, _, run_asNext hs, .slice (Cx.bind_same _ _ _) hcap (by simp) (fun _ => by simp) (by omega), hR.1, hR.2⟩
      split at hr
      · simp only [dropIf, Option.some.injEq] at hr
        subst hr
        refine key _ (fun i hi => ?_) (fun i hi hi2 => ?_)
        · rw [Tr.get_put, if_neg (by omega)]; simp
        · rw [Tr.get_put, if_pos ⟨hi, hi2⟩]
      · cases ht : k.cells.take o (m * size) with
        | none => simp [ht] at hr
        | some old =>
          simp only [ht, dropIf, Option.some.injEq] at hr
          subst hr
          obtain ⟨t1, t2⟩ := Tr.take_spec _ _ _ _ ht
          refine key _ (fun i hi => ?_) (fun i hi hi2 => ?_)
          · rw [Tr.get_put, if_pos (by simp only [Nat.zero_add, Nat.zero_le, true_and, List.length_append]; omega), List.getElem?_append_left (by omega), t2 i hi]
            simp
          · rw [Tr.get_put, if_pos (by simp only [Nat.zero_add, Nat.zero_le, true_and, List.length_append]; omega), List.getElem?_append_right (by omega), t1]
            simp
    · cases hr

theorem appendE_ok (h : Rel E γ N H.bs.get w) (hN : N ≤ w.heap.size) {t u ty e : TypeId} {info : TypeInfo} {d : TypeDesc} {q : Bool} (ht : E.P.underlying t = some (.slice e)) (hi : E.P.info? e = some info) {s : AV} {sv x : Value} (hv : VR γ s sv)
    {n : Nat} {l : List AV} {r : R} (hr : appendE E ⟨kindOf d, info.size, info.bytes, zeroOf E.P d info, q⟩ s n l H = some r) (hsrc : l.all okc = true → ∃ news, VRs γ l news ∧ Src E.P info.size u x n news w) (hsrc0 : n = 0 → Src E.P info.size u x 0 [] w)
    (hf : ∀ id, H.n ≤ id → id < r.n → γ.loc id = none) : Does E γ N H w (asNext (Builtin.append_ #[t, u] ty #[sv, x])) r := by
  unfold appendE at hr
  cases n with
  | zero =>
    simp only at hr
    have h0 := hsrc0 rfl
    cases hv <;> simp only at hr <;> try (cases hr; done)
    · simp only [Option.some.injEq] at hr; subst hr
      rename_i h1 h2 h3 h4 h5
      exact does_val h (run_asNext (run_append_nothing w t u ty e info ht hi _ _ _ h2 x h0)) (.slice h1 h2 h3 h4 h5)
    · simp only [Option.some.injEq] at hr; subst hr
      exact does_val h (run_asNext (run_append_nothing w t u ty e info ht hi _ _ _ (Nat.le_refl _) x h0)) .nilslice
  | succ n =>
    simp only at hr
    cases hz : zeroOf E.P d info with
    | none => simp [hz] at hr
    | some z =>
      obtain ⟨hfl, zv, hz1, hz2⟩ := zeroOf_ok hz
      simp only [hz] at hr
      split at hr
      · rename_i hc
        obtain ⟨hzl, hall⟩ := hc
        obtain ⟨news, hn1, hn2⟩ := hsrc hall
        have hzc := absCells_ok (γ := γ) hz2
        have hzs : zv.cells.size = info.size := by have := hzc.length; simp only [Array.length_toList] at this; omega
        cases hv <;> simp only at hr <;> try (cases hr; done)
        · rename_i b o len es full β ω σ cap A hloc hlen hfull haddr hfit
          split at hr
          · rename_i hc2
            obtain ⟨rfl, hbig⟩ := hc2
            have hbytes : (len + (n + 1)) * info.bytes ≤ 140737488355328 := by
              have : (len + (n + 1)) * (info.bytes + 1) = (len + (n + 1)) * info.bytes + (len + (n + 1)) := by rw [Nat.mul_add, Nat.mul_one]
              omega
            have hsmall : len + (n + 1) ≤ 1073741824 := by
              have : (len + (n + 1)) * (info.bytes + 1) = (len + (n + 1)) * info.bytes + (len + (n + 1)) := by rw [Nat.mul_add, Nat.mul_one]
              omega
            have hrn : r.n = H.n + 1 := by
              unfold growA at hr
              split at hr
              · cases hr
              · split at hr
                · split at hr
                  · simp only [Option.some.injEq] at hr; subst hr; rfl
                  · split at hr
                    · simp only [Option.some.injEq] at hr; subst hr; rfl
                    · cases hr
                · cases hr
            have hfree : γ.loc H.n = none := hf _ (Nat.le_refl _) (by omega)
            by_cases hroom : len + (n + 1) ≤ cap
            · -- there is room
              have hff : full = false := by
                cases full
                · rfl
                · have := hfull rfl; omega
              subst hff
              obtain rfl := haddr (by omega)
              have hb : ∃ k, H.bs.get b = some k := by
                unfold growA at hr
                cases hk : H.bs.get b with
                | none => simp [hk] at hr
                | some k => exact ⟨k, rfl⟩
              obtain ⟨k, hk⟩ := hb
              obtain ⟨β', ω', σ', hB⟩ := h.blk hk
              obtain ⟨rfl, rfl, rfl⟩ := hB.fun hloc
              have hnl := hn2.newsLen
              have hmn : (len + (n + 1)) * info.size ≤ cap * info.size := Nat.mul_le_mul_right _ hroom
              rw [Nat.add_mul] at hmn
              exact grow_here h hr hall hfree hloc hn1 hnl hroom hfit
                (run_append_room_src w t u ty e info ht hi β' (ω' + o) len cap x (n + 1) news hn2 hroom (fun j hj => (hB.there _ (by omega)).1) (fun j hj => (hB.there _ (by omega)).2))
            · -- there is none
              obtain ⟨olds, ho1, ho2⟩ : ∃ olds : List Value, olds.length = len * info.size ∧ ∀ j v, olds[j]? = some v → w.cell? (Addr.add ⟨β, ω + o, none⟩ j) = some v := by
                have hb : ∃ k, H.bs.get b = some k ∧ o + len * info.size ≤ k.len := by
                  unfold growA at hr
                  cases hk : H.bs.get b with
                  | none => simp [hk] at hr
                  | some k =>
                    simp only [hk] at hr
                    split at hr
                    · rename_i hle; exact ⟨k, rfl, hle⟩
                    · cases hr
                obtain ⟨k, hk, hkl⟩ := hb
                obtain ⟨β', ω', σ', hB⟩ := h.blk hk
                obtain ⟨rfl, rfl, rfl⟩ := hB.fun hloc
                refine ⟨(List.range (len * info.size)).map fun j => (w.cell? ⟨β', ω' + o + j, none⟩).getD undef, by simp, fun j v hj => ?_⟩
                have hj' : j < len * info.size := by have := (List.getElem?_eq_some_iff.1 hj).1; simpa using this
                obtain ⟨v', av, e1, e2, e3, e4⟩ := hB.cell (o + j) (by omega)
                rw [← Nat.add_assoc] at e3
                simp [hj', e3] at hj
                subst hj
                rw [show (⟨β', ω' + o, none⟩ : Addr).add j = ⟨β', ω' + o + j, none⟩ by unfold Addr.add; split <;> simp_all]
                exact e3
              have hold : (Builtin.firstCells info.size len (.slice (some A) len cap)).run E.P w.drew = .ok olds.toArray w.drew := by
                refine run_firstCells_some w.drew info.size len A len cap olds ho1 (fun j v hj => ?_)
                have hj' := (List.getElem?_eq_some_iff.1 hj).1
                have : len ≠ 0 := by rintro rfl; simp at ho1; rw [ho1] at hj'; simp at hj'
                rw [haddr (by omega)]
                have := ho2 j v hj
                simpa using this
              have hrun := run_append_grow_src w t u ty e info zv ht hi hz1 (some A) len cap olds hold x (n + 1) news hn2 (by omega) (by omega) (growslice_fits (by omega) hbytes)
              exact grow_new h hN hr hall hfree hloc hn1 hn2.newsLen ⟨ho1, ho2⟩ (grownCap_ge w (len + (n + 1)) cap e) (by rw [size_zeroCells, hzs]) hrun
          · cases hr
        · -- onto nothing
          split at hr
          · rename_i hbig
            cases hnw : H.new l with
            | none => simp [hnw] at hr
            | some H' =>
              simp only [hnw, Option.some.injEq] at hr
              subst hr
              have hb0 : (n + 1) * (info.bytes + 1) = (n + 1) * info.bytes + (n + 1) := by rw [Nat.mul_add, Nat.mul_one]
              have hrun := run_append_grow_src w t u ty e info zv ht hi hz1 none 0 0 [] (run_firstCells_none w.drew info.size 0 0 0) x (n + 1) news hn2 (by omega) (by omega) (growslice_fits (by omega) (by rw [Nat.zero_add]; omega))
              have hge := grownCap_ge w (0 + (n + 1)) 0 e
              simp only [Nat.zero_add, List.nil_append] at hrun hge
              have hsz : (news.toArray ++ Builtin.zeroCells zv.cells (grownCap w (n + 1) 0 e - (n + 1))).size = grownCap w (n + 1) 0 e * info.size := by
                rw [Array.size_append, List.size_toArray, hn2.newsLen, size_zeroCells, hzs, ← Nat.add_mul]
                congr 1
                omega
              refine does_new h hN hnw hf (fz := (0, 0)) (run_asNext hrun) rfl (fun i hi => by simp) hn1 (by simp) (fun i hi => by rw [Array.getElem?_append_left (by simpa using hi)]; simp) ?_
              refine .slice (Cx.bind_same _ _ _) hge (by simp) (fun _ => by simp) ?_
              rw [hsz]; omega
          · cases hr
      · cases hr

theorem run_append_zeros {P : Program} (w : World) (t tx ty e : TypeId) (i : TypeInfo) (z : Value) (k0 : IntKind) (ht : P.underlying t = some (.slice e)) (htx : P.underlying tx = some (.int k0)) (hi : P.info? e = some i) (hz : i.zero = some z) (k : IntKind) (n : Nat)
    (h0 : 0 < n) (h1 : n ≤ 1000000) (hb : n * (i.bytes + 1) ≤ 1073741824) :
    (Builtin.append_ #[t, tx] ty #[.slice none 0 0, .int k (.ofNat n)]).run P w =
      .ok (.slice (some ⟨w.heap.size, 0, none⟩) n (grownCap w n 0 e)) (w.drew.alloc (.cells ((if n * i.size = 0 then #[] else Builtin.zeroCells z.cells n) ++ Builtin.zeroCells z.cells (grownCap w n 0 e - n)) e)) := by
  have hb0 : n * (i.bytes + 1) = n * i.bytes + n := by rw [Nat.mul_add, Nat.mul_one]
  have hw : IntKind.i64.wrap (n : Int) = (n : Int) := by
    rw [← wrapF_eq]
    unfold wrapF inKind
    rw [decide_eq_true (show lowOf .i64 ≤ (n : Int) by simp [lowOf]), decide_eq_true (show (n : Int) ≤ highOf .i64 by simp [highOf]; omega)]
    rfl
  have hneg : ¬ ((n : Int) < 0) := by omega
  have hbig : ¬ (281474976710656 < (n : Int) * (i.bytes : Int)) := by
    have : ((n * i.bytes : Nat) : Int) ≤ 1073741824 := by omega
    rw [Int.natCast_mul] at this
    omega
  have hn : ¬ (n ≤ 0) := by omega
  have h63' : ¬ (9223372036854775807 < (n : Int)) := by omega
  have h48 : Builtin.nextslicecap (0 + n) 0 * i.bytes ≤ 281474976710656 := growslice_fits (by omega) (by rw [Nat.zero_add]; omega)
  rw [Nat.zero_add] at h48
  have h48' : ¬ (281474976710656 < Builtin.nextslicecap n 0 * i.bytes) := by omega
  by_cases hs : n * i.size = 0
  · simp [Builtin.append_, run_underlying ht, run_underlying htx, sizeOf, typeInfo, zeroValue, hi, hz, asInt, asIntOf, hw, hneg, hbig, hn, h63', h48', Question.forced, run_firstCells_none, newRow, grownCap, hs]
    omega
  · simp [Builtin.append_, run_underlying ht, run_underlying htx, sizeOf, typeInfo, zeroValue, hi, hz, asInt, asIntOf, hw, hneg, hbig, hn, h63', h48', Question.forced, run_firstCells_none, newRow, grownCap, hs]
    omega
theorem zeros_ok (ok : TyOk E) (h : Rel E γ N H.bs.get w) (hN : N ≤ w.heap.size) {t u ty e : TypeId} {info : TypeInfo} {d : TypeDesc} {q : Bool} (h2 : E.P.underlying t = some (.slice e)) (g1 : E.P.info? e = some info) (hz : isIntT E u = true) {s x : AV} {sv xv : Value} (hs : VR γ s sv) (hx : VR γ x xv) {r : R}
    (hr : zerosA ⟨kindOf d, info.size, info.bytes, zeroOf E.P d info, q⟩ s x H = some r) (hf : ∀ id, H.n ≤ id → id < r.n → γ.loc id = none) : Does E γ N H w (asNext (Builtin.append_ #[t, u] ty #[sv, xv])) r := by
  have hu : ∃ k0, E.P.underlying u = some (.int k0) := by
    unfold isIntT isIntTy at hz
    split at hz
    · rename_i j hj
      obtain ⟨jinfo, jd, j1, j2, rfl⟩ := tiOf_ok (ok.ty hj)
      split at hz
      · rename_i k hk
        obtain rfl := kind_int hk
        exact ⟨k, j2⟩
      · cases hz
    · cases hz
  obtain ⟨k0, hu⟩ := hu
  unfold zerosA at hr
  split at hr
  · rename_i k n
    cases hs
    cases hx
    simp only at hr
    split at hr
    · rename_i z hzz
      split at hr
      · rename_i hc
        obtain ⟨h0, hzl, hn1, hb⟩ := hc
        cases hnw : H.new (replA z n) with
        | none => simp [hnw] at hr
        | some H' =>
          simp only [hnw, Option.some.injEq] at hr
          subst hr
          obtain ⟨hfl, zv, hz1, hz2⟩ := zeroOf_ok hzz
          have hzc := absCells_ok (γ := γ) hz2
          have hzs : zv.cells.size = info.size := by have := hzc.length; simp only [Array.length_toList] at this; omega
          have hrun := run_append_zeros w t u ty e info zv k0 h2 hu g1 hz1 k n h0 hn1 hb
          have hnews := repl_ok hzc n
          have hcells : (if n * info.size = 0 then #[] else Builtin.zeroCells zv.cells n) = madeCells zv.cells (n * zv.cells.size) := by
            rw [hzs]
            split
            · rename_i e0; rw [e0]; simp [madeCells]
            · rw [← hzs]; rfl
          rw [hcells] at hrun
          have hge := grownCap_ge w n 0 e
          have hms : (madeCells zv.cells (n * zv.cells.size)).size = n * info.size := by rw [size_madeCells, hzs]
          have hsz : (madeCells zv.cells (n * zv.cells.size) ++ Builtin.zeroCells zv.cells (grownCap w n 0 e - n)).size = grownCap w n 0 e * info.size := by
            rw [Array.size_append, hms, size_zeroCells, hzs, ← Nat.add_mul]
            congr 1
            omega
          refine does_new h hN hnw hf (fz := (0, 0)) (run_asNext hrun) rfl (fun i hi => by simp) hnews (by simp) (fun i hi => by rw [Array.getElem?_append_left (by simpa using hi)]; simp) ?_
          refine .slice (Cx.bind_same _ _ _) hge (by simp) (fun _ => by simp) ?_
          rw [hsz]; omega
      · cases hr
    · cases hr
  · cases hr
theorem append_ok (ok : TyOk E) (h : Rel E γ N H.bs.get w) (hN : N ≤ w.heap.size) {t u ty : TypeId} {s x : AV} {sv xv : Value} (hs : VR γ s sv) (hx : VR γ x xv) {r : R} (hr : appendA E t u s x H = some r)
    (hf : ∀ id, H.n ≤ id → id < r.n → γ.loc id = none) : Does E γ N H w (asNext (Builtin.append_ #[t, u] ty #[sv, xv])) r := by
  unfold appendA at hr
  cases ht : E.ty.get t with
  | none => simp [ht] at hr
  | some i =>
    obtain ⟨info, d, h1, h2, rfl⟩ := tiOf_ok (ok.ty ht)
    simp only [ht] at hr
    split at hr
    · rename_i e hk
      obtain rfl := kind_slice hk
      cases he : E.ty.get e with
      | none => simp [he] at hr
      | some ie =>
        obtain ⟨einfo, ed, g1, g2, rfl⟩ := tiOf_ok (ok.ty he)
        simp only [he] at hr
        cases hz : isIntT E u with
        | true => rw [hz] at hr; exact zeros_ok ok h hN h2 g1 hz hs hx hr hf
        | false =>
        rw [hz] at hr
        simp only at hr
        cases ha : addedA E u einfo.size x H with
        | none => simp [ha] at hr
        | some q =>
          obtain ⟨n, l⟩ := q
          simp only [ha] at hr
          refine appendE_ok h hN h2 g1 hs hr (fun hall => addedA_ok ok h hx ha hall) (fun hn => ?_) hf
          subst hn
          have hl0 : l = [] := by
            unfold addedA at ha
            split at ha
            · cases ha
            · split at ha
              · split at ha
                · simp only [Option.some.injEq, Prod.mk.injEq] at ha
                  obtain ⟨hh, rfl⟩ := ha
                  simp [List.length_eq_zero_iff.1 hh, bytesA]
                · cases ha
              · simp only [Option.some.injEq, Prod.mk.injEq] at ha; exact ha.2.symm
              · split at ha
                · split at ha
                  · rename_i l' hl'
                    simp only [Option.some.injEq, Prod.mk.injEq] at ha
                    obtain ⟨rfl, rfl⟩ := ha
                    obtain ⟨_, _, _, vs, _, e2, e3, _⟩ := loadA_ok h hl'
                    have := e2.length
                    exact List.length_eq_zero_iff.1 (by simp at e3; simp [this, e3])
                  · cases ha
                · cases ha
              · cases ha
          subst hl0
          obtain ⟨news, n1, n2⟩ := addedA_ok ok h hx ha rfl
          cases n1
          exact n2
    · cases hr

theorem lessA_ok (hs : SymOk E γ) {x y : AV} {x' y' : Value} {b : Bool} (h : lessA E x y = some b) (hx : VR γ x x') (hy : VR γ y y') : ∃ k p q, x' = .int k p ∧ y' = .int k q ∧ b = decide (p < q) := by
  unfold lessA at h
  split at h
  · rename_i k p hp
    split at h
    · rename_i k' q hq
      split at h
      · rename_i hk
        subst hk
        split at h
        · rename_i c hc
          simp only [Option.some.injEq] at h
          subst h
          obtain ⟨v', ⟨_, b2⟩, b3⟩ := linOp_ok (w := (default : World)) (P := E.P) (t := 0) (xo := .const undef) (yo := .const undef) hs hc
          cases b3
          simp [Go.binOp, Op.intCmp] at b2
          exact ⟨_, _, _, linOf_ok hp hx, linOf_ok hq hy, b2.symm⟩
        · cases h
      · cases h
    · cases h
  · cases h
theorem min_ok (hs : SymOk E γ) : ∀ {l : List AV} {x v : AV} {x' : Value} {l' : List Value}, bestA E false x l = some v → VR γ x x' → VRs γ l l' → ∃ v', (l'.foldlM Builtin.min2 x').run E.P w = .ok v' w ∧ VR γ v v'
  | [], x, v, x', l', h, hx, hl => by
    cases hl
    simp only [bestA, Option.some.injEq] at h
    subst h
    exact ⟨x', rfl, hx⟩
  | y :: l, x, v, x', l', h, hx, hl => by
    cases hl with
    | cons hy hl =>
      simp only [bestA] at h
      split at h
      · rename_i hb
        obtain ⟨k, p, q, rfl, rfl, hlt⟩ := lessA_ok hs hb hy hx
        have hlt' : p < q := by simpa using hlt.symm
        obtain ⟨v', e1, e2⟩ := min_ok hs h hy hl
        exact ⟨v', by simp [List.foldlM, Builtin.min2, hlt', e1], e2⟩
      · rename_i hb
        obtain ⟨k, p, q, rfl, rfl, hlt⟩ := lessA_ok hs hb hy hx
        have hlt' : ¬ p < q := by simpa using hlt.symm
        obtain ⟨v', e1, e2⟩ := min_ok hs h hx hl
        exact ⟨v', by simp [List.foldlM, Builtin.min2, hlt', e1], e2⟩
      · cases h
theorem max_ok (hs : SymOk E γ) : ∀ {l : List AV} {x v : AV} {x' : Value} {l' : List Value}, bestA E true x l = some v → VR γ x x' → VRs γ l l' → ∃ v', (l'.foldlM Builtin.max2 x').run E.P w = .ok v' w ∧ VR γ v v'
  | [], x, v, x', l', h, hx, hl => by
    cases hl
    simp only [bestA, Option.some.injEq] at h
    subst h
    exact ⟨x', rfl, hx⟩
  | y :: l, x, v, x', l', h, hx, hl => by
    cases hl with
    | cons hy hl =>
      simp only [bestA] at h
      split at h
      · rename_i hb
        obtain ⟨k, p, q, rfl, rfl, hlt⟩ := lessA_ok hs hb hx hy
        have hlt' : p < q := by simpa using hlt.symm
        obtain ⟨v', e1, e2⟩ := max_ok hs h hy hl
        exact ⟨v', by simp [List.foldlM, Builtin.max2, hlt', e1], e2⟩
      · rename_i hb
        obtain ⟨k, p, q, rfl, rfl, hlt⟩ := lessA_ok hs hb hx hy
        have hlt' : ¬ p < q := by simpa using hlt.symm
        obtain ⟨v', e1, e2⟩ := max_ok hs h hx hl
        exact ⟨v', by simp [List.foldlM, Builtin.max2, hlt', e1], e2⟩
      · cases h

theorem clear_ok (ok : TyOk E) (h : Rel E γ N H.bs.get w) {t ty : TypeId} {x : AV} {xv : Value} (hx : VR γ x xv) {r : R} (hr : clearX E t x H = some r) : Does E γ N H w (asNext (Builtin.clear_ #[t] ty #[xv])) r := by
  unfold clearX at hr
  cases ht : E.ty.get t with
  | none => simp [ht] at hr
  | some i =>
    obtain ⟨info, d, h1, h2, rfl⟩ := tiOf_ok (ok.ty ht)
    simp only [ht] at hr
    split at hr
    · rename_i e hk
      obtain rfl := kind_slice hk
      cases he : E.ty.get e with
      | none => simp [he] at hr
      | some ie =>
        obtain ⟨einfo, ed, g1, g2, rfl⟩ := tiOf_ok (ok.ty he)
        simp only [he] at hr
        split at hr
        · cases hx
          simp only [Option.some.injEq] at hr; subst hr
          exact does_val h (run_asNext (v := .tuple #[]) (by simp [Builtin.clear_, run_underlying h2])) (.tup .nil)
        · rename_i z b o n es full hz
          split at hr
          · rename_i hc
            obtain ⟨rfl, hzl⟩ := hc
            obtain ⟨hfl, zv, hz1, hz2⟩ := zeroOf_ok hz
            cases hs : storeA H b o (replA z n) with
            | none => simp [hs] at hr
            | some H' =>
              simp only [hs, Option.some.injEq] at hr
              subst hr
              have hzc := absCells_ok (γ := γ) hz2
              have hzs : zv.cells.size = einfo.size := by have := hzc.length; simp only [Array.length_toList] at this; omega
              have hrep := repl_ok hzc n
              obtain ⟨β, ω, σ, e1, e2, e3, e4, e5, e6, e7⟩ := storeA_ok h hs hrep
              cases hx with
              | slice hloc hlen hfull haddr hfit =>
                rw [hloc] at e1
                simp only [Option.some.injEq, Prod.mk.injEq] at e1
                obtain ⟨rfl, rfl, rfl⟩ := e1
                rename_i β ω σ cap A
                refine ⟨.tuple #[], _, γ, run_asNext ?_, .tup .nil, e6, e7⟩
                have hrun : (storeCells ⟨β, ω + o, none⟩ (madeCells zv.cells (n * zv.cells.size)).toList).run E.P w = .ok () (w.setCells β (ω + o) (madeCells zv.cells (n * zv.cells.size)).toList) :=
                  run_storeCells_cells (P := E.P) β (ω + o) _ 0 w (fun j hj => (e5 j hj).1) (fun j hj => (e5 j hj).2) e4
                cases n with
                | zero =>
                  have : (madeCells zv.cells (0 * zv.cells.size)).toList = [] := by simp [madeCells]
                  rw [this]
                  simp [Builtin.clear_, run_underlying h2, World.setCells]
                | succ n =>
                  obtain rfl := haddr (by omega)
                  have hmz : Builtin.zeroCells zv.cells (n + 1) = madeCells zv.cells ((n + 1) * zv.cells.size) := rfl
                  simp [Builtin.clear_, run_underlying h2, zeroValue, typeInfo, g1, hz1, hmz, hrun]
          · cases hr
        · cases hr
    · cases hr
end
end Go.Proofs.YtfcfliclmjikkaaGreatDoor.Ex
