/- The plain runner's conversions, and Go's own functions. -/
import Derived.Test.YtfcfliclmjikkaaGreatDoorExl
namespace Go.Proofs.YtfcfliclmjikkaaGreatDoor.Ex
open Go
set_option linter.unusedVariables false
set_option linter.unusedSimpArgs false
section
variable {E : Env} {γ : Cx} {N : Nat} {H : AH} {w : World} {F : Fr} {a : Act}

theorem bytesA_ok (s : List UInt8) : VRs γ (bytesA s) (byteCells ⟨s.toArray⟩) := by
  unfold bytesA byteCells
  simp only
  induction s with
  | nil => exact .nil
  | cons c s ih => exact .cons (.int _ _) ih
theorem bytesA_okc (s : List UInt8) : (bytesA s).all okc = true := by
  unfold bytesA
  induction s with
  | nil => rfl
  | cons c s ih => simp [okc] at ih ⊢

theorem strOfA_ok : ∀ {l : List AV} {s : List UInt8} {vs : List Value}, strOfA l = some s → VRs γ l vs → l.length = s.length ∧ ∃ ns : List Int, vs = ns.map (Value.int .u8) ∧ s = ns.map fun n => UInt8.ofNat n.toNat
  | [], s, vs, h, hv => by
    simp [strOfA] at h; subst h
    cases hv
    exact ⟨rfl, [], rfl, rfl⟩
  | x :: l, s, vs, h, hv => by
    simp only [strOfA] at h
    split at h
    · rename_i n
      cases hr : strOfA l with
      | none => simp [hr] at h
      | some r =>
        simp only [hr, Option.some.injEq] at h
        subst h
        cases hv with
        | cons hx hl =>
          cases hx
          obtain ⟨e1, ns, e2, e3⟩ := strOfA_ok hr hl
          exact ⟨by simp [e1], n :: ns, by simp [e2], by simp [e3]⟩
    · cases h

theorem foldl_push : ∀ (ns : List Int) (r : ByteArray), ns.foldl (fun r n => r.push (UInt8.ofNat n.toNat)) r = ⟨r.data ++ (ns.map fun n => UInt8.ofNat n.toNat).toArray⟩
  | [], r => by simp
  | n :: ns, r => by
    simp only [List.foldl_cons]
    rw [foldl_push ns]
    simp [ByteArray.push]

theorem conv_ok (ok : TyOk E) (h : Rel E γ N H.bs.get w) (hN : N ≤ w.heap.size) (hF : FRel γ F a) {src dst : TypeId} {x : Operand} {r : R} (hr : convX E F src dst x H = some r)
    (hf : ∀ id, H.n ≤ id → id < r.n → γ.loc id = none) : Does E γ N H w (asNext (convert src dst (a.eval x))) r := by
  unfold convX at hr
  cases hx : opA F x with
  | none => simp [hx] at hr
  | some u =>
    simp only [hx] at hr
    have hp := opA_ok hF hx
    generalize a.eval x = xv at hp
    unfold convA at hr
    cases hs : E.ty.get src with
    | none => simp [hs] at hr
    | some si =>
      obtain ⟨sinfo, sd, s1, s2, rfl⟩ := tiOf_ok (ok.ty hs)
      cases hd : E.ty.get dst with
      | none => simp [hs, hd] at hr
      | some di =>
        obtain ⟨dinfo, dd, d1, d2, rfl⟩ := tiOf_ok (ok.ty hd)
        simp only [hs, hd] at hr
        split at hr
        · rename_i k hk
          obtain rfl := kind_int hk
          unfold convI at hr
          split at hr
          · cases hp
            rename_i q n
            simp only [Option.some.injEq] at hr; subst hr
            exact does_val h (run_asNext (v := .int k (k.wrap n)) (by cases sd <;> simp [convert, run_underlying s2, run_underlying d2, Conv.intToInt])) (by rw [wrapF_eq]; exact .int _ _)
          · cases hp
            rename_i q i c e
            split at hr
            · rename_i v hv
              simp only [Option.some.injEq] at hr; subst hr
              exact does_val h (run_asNext (v := .int k (k.wrap (Lin.at γ ⟨i, c, e⟩))) (by cases sd <;> simp [convert, run_underlying s2, run_underlying d2, Conv.intToInt, Lin.at])) (Lin.val_ok h.symOk hv)
            · cases hr
          · cases hr
        · rename_i e hk
          obtain rfl := kind_slice hk
          split at hr
          · rename_i hsk
            obtain rfl := kind_str hsk
            unfold convB at hr
            cases he : E.ty.get e with
            | none => simp [he] at hr
            | some ie =>
              obtain ⟨einfo, ed, g1, g2, rfl⟩ := tiOf_ok (ok.ty he)
              simp only [he] at hr
              split at hr
              · rename_i s hk2
                obtain rfl := kind_int hk2
                split at hr
                · rename_i hsz
                  cases hp
                  cases hn : H.new (bytesA s) with
                  | none => simp [hn] at hr
                  | some H' =>
                    simp only [hn, Option.some.injEq] at hr
                    subst hr
                    have hrun := run_bytes_of_string (P := E.P) w src dst e ⟨s.toArray⟩ s2 d2 g2
                    have hge := grownCap_ge w s.length 0 e
                    have hcs : (bytesRow ⟨s.toArray⟩ (grownCap w s.length 0 e)).size = grownCap w s.length 0 e := by
                      simp [bytesRow, size_ofList]; omega
                    refine does_new (cs := bytesRow ⟨s.toArray⟩ (grownCap w s.length 0 e)) (T := e) (fz := ((bytesRow ⟨s.toArray⟩ (grownCap w s.length 0 e)).size, (bytesRow ⟨s.toArray⟩ (grownCap w s.length 0 e)).size + 1)) h hN hn hf (vs := byteCells ⟨s.toArray⟩) (run_asNext hrun) rfl
                      (fun i hi hh => by have := hh.1; omega) (bytesA_ok s) ?_ ?_ ?_
                    · rw [byteCells_length, size_ofList, hcs]; exact hge
                    · intro i hi
                      rw [byteCells_length, size_ofList] at hi
                      simp [bytesRow, byteCells, Array.getElem?_append, hi]
                    · refine .slice (Cx.bind_same _ _ _) hge (by simp) (fun _ => by simp) ?_
                      simp only [size_ofList]
                      rw [hcs]; omega
                · cases hr
              · cases hr
          · cases hr
        · rename_i hk
          obtain rfl := kind_str hk
          unfold convS at hr
          split at hr
          · cases hp
            simp only [Option.some.injEq] at hr; subst hr
            exact does_val h (run_asNext (v := .string ⟨_⟩) (by cases sd <;> simp [convert, run_underlying s2, run_underlying d2])) (.str _)
          · split at hr
            · rename_i e hk2
              obtain rfl := kind_slice hk2
              cases he : E.ty.get e with
              | none => simp [he] at hr
              | some ie =>
                obtain ⟨einfo, ed, g1, g2, rfl⟩ := tiOf_ok (ok.ty he)
                simp only [he] at hr
                split at hr
                · rename_i hk3 hno
                  obtain rfl := kind_int hk3
                  cases hp
                  simp only [Option.some.injEq] at hr; subst hr
                  refine does_val h (run_asNext (v := .string ⟨([] : List UInt8).toArray⟩) ?_) (.str _)
                  rw [run_convert_bytes_string w src dst e none 0 0 s2 g2 d2]
                  rfl
                · rename_i b o n full hk3 hno
                  obtain rfl := kind_int hk3
                  cases hl : loadA H b o n with
                  | none => simp [hl] at hr
                  | some l =>
                    simp only [hl] at hr
                    cases hst : strOfA l with
                    | none => simp [hst] at hr
                    | some s =>
                      simp only [hst, Option.some.injEq] at hr
                      subst hr
                      cases hp with
                      | slice hloc hlen hfull haddr hfit =>
                        rename_i β ω σ cap A
                        obtain ⟨β', ω', σ', vs, e1, e2, e3, e4, e5, e6⟩ := loadA_ok h hl
                        rw [hloc] at e1
                        simp only [Option.some.injEq, Prod.mk.injEq] at e1
                        obtain ⟨rfl, rfl, rfl⟩ := e1
                        obtain ⟨q1, ns, q2, q3⟩ := strOfA_ok hst e2
                        have hA : ∀ j v, vs[j]? = some v → w.cell? (A.add j) = some v := fun j v hj => by
                          have := (List.getElem?_eq_some_iff.1 hj).1
                          rw [haddr (by omega)]
                          exact e6 j v hj
                        have hload := run_loadCells_list (P := E.P) w A vs hA
                        rw [e3, q2] at hload
                        refine does_val h (run_asNext (v := .string ⟨s.toArray⟩) ?_) (.str _)
                        rw [run_convert_bytes_string w src dst e (some A) n cap s2 g2 d2, run_bytesToString w A n cap ns hload, foldl_push, q3]
                        have he0 : ByteArray.empty.data = #[] := rfl
                        simp [he0]
                · cases hr
            · cases hr
        · cases hr
end
end Go.Proofs.YtfcfliclmjikkaaGreatDoor.Ex
