/- The plain runner: two of Go's body-less functions. -/
import Derived.Test.YtfcfliclmjikkaaGreatDoorEyb
namespace Go.Proofs.YtfcfliclmjikkaaGreatDoor.Ex
open Go
set_option linter.unusedVariables false
set_option linter.unusedSimpArgs false

def countA (c : Nat) : List UInt8 → Nat
  | [] => 0
  | x :: l => match Nat.beq x.toNat c with
    | true => countA c l + 1
    | false => countA c l
theorem fold_loop {β : Type} (f : β → UInt8 → β) (b : ByteArray) (h : b.size ≤ b.size) : ∀ (i j : Nat) (n : β), i + j = b.size → (ByteArray.foldlM.loop (m := _root_.Id) (β := β) (fun x y => f x y) b b.size h i j n) = (b.data.toList.drop j).foldl f n
  | 0, j, n, e => by
    rw [ByteArray.foldlM.loop]
    have : ¬ j < b.size := by omega
    rw [dif_neg this, List.drop_of_length_le (by show b.data.toList.length ≤ j; have : b.data.toList.length = b.size := rfl; omega)]
    rfl
  | i + 1, j, n, e => by
    rw [ByteArray.foldlM.loop]
    have hj : j < b.size := by omega
    rw [dif_pos hj]
    have hl : j < b.data.toList.length := by have : b.data.toList.length = b.size := rfl; omega
    rw [List.drop_eq_getElem_cons hl, List.foldl_cons]
    exact fold_loop f b h i (j + 1) _ (by omega)
theorem fold_bytes {β : Type} (f : β → UInt8 → β) (b : ByteArray) (n : β) : b.foldl f n = b.data.toList.foldl f n := by
  have := fold_loop f b (Nat.le_refl _) b.size 0 n (by omega)
  rw [List.drop_zero] at this
  rw [← this]
  unfold ByteArray.foldl ByteArray.foldlM
  simp only [Nat.le_refl, dif_pos, Nat.sub_zero]
  rfl
theorem count_fold (c : Nat) (hc : c < 256) : ∀ (l : List UInt8) (n : Int), l.foldl (fun n x => if x == c.toUInt8 then n + 1 else n) n = n + countA c l
  | [], n => by simp [countA]
  | x :: l, n => by
    rw [List.foldl_cons, count_fold c hc l]
    have e2 : c.toUInt8.toNat = c := by simp; omega
    simp only [countA]
    cases h : Nat.beq x.toNat c with
    | true =>
      have : x = c.toUInt8 := UInt8.toNat_inj.1 (by rw [e2]; exact Nat.eq_of_beq_eq_true h)
      rw [this]
      simp only [beq_self_eq_true, if_true]
      omega
    | false =>
      have : (x == c.toUInt8) = false := by
        simp only [beq_eq_false_iff_ne, ne_eq]
        intro e
        rw [e, e2, Nat.beq_refl] at h
        cases h
      rw [this]
      simp only [Bool.false_eq_true, if_false]
theorem callWp_mono {P : Program} {f : FuncId} {as : List Value} {w : World} {Q Q' : Value → World → Prop} (h : CallWp P f as w Q) (hq : ∀ v w', Q v w' → Q' v w') : CallWp P f as w Q' := by
  unfold CallWp at h ⊢
  split
  · rename_i v' w' he
    rw [he] at h
    exact hq _ _ h
  · rename_i g as w' he
    rw [he] at h
    refine Calls.mono h ?_
    rintro e w'' ⟨v', rfl, q⟩
    exact ⟨v', rfl, hq _ _ q⟩
  · rename_i hne1 hne2
    split at h
    · rename_i he; exact absurd he (hne1 _ _)
    · rename_i he; exact absurd he (hne2 _ _ _)
    · exact h
/-- What answers for Go's body-less functions. -/
def hookY (ib cs : FuncId) : FuncId → List AV → AH → Option (AV × AH) := fun f args H =>
  match Nat.beq f cs with
  | true => match args with
    | [.str s, .int .u8 (.ofNat c)] => if c ≤ 255 then some (.int .i64 (.ofNat (countA c s)), H) else none
    | _ => none
  | false => hookX ib f args H
structure CountFn (P : Program) (cs : FuncId) : Prop where
  fn : ∃ fn, P.funcs[cs]? = some fn ∧ (fn.name == "runtime.NumGoroutine") = false ∧ fn.body.isNone = true ∧ Extern.findNext fn = none ∧ Extern.find fn = some Extern.BytealgCount.count
theorem hookY_num {E : Env} {ib cs : FuncId} (h : E.hook = hookY ib cs) : HookNum E := fun {f as H H' v} e => by
  rw [h] at e
  unfold hookY at e
  split at e
  · split at e
    · split at e
      · simp only [Option.some.injEq, Prod.mk.injEq] at e; rw [e.2]; exact Nat.le_refl _
      · cases e
    · cases e
  · exact hookX_num (E := { E with hook := hookX ib }) (ib := ib) rfl e
theorem hookY_ok {E : Env} {ib cs : FuncId} (h : E.hook = hookY ib cs) (hb : ByteFn E.P ib) (hc : CountFn E.P cs) : HookOk E := fun {f as H H' v} e {γ N w as'} hrel hN hargs hf => by
  rw [h] at e
  unfold hookY at e
  split at e
  · rename_i hq
    have hq := Nat.eq_of_beq_eq_true hq
    subst hq
    split at e
    · rename_i s c
      split at e
      · rename_i hcc
        simp only [Option.some.injEq, Prod.mk.injEq] at e
        obtain ⟨rfl, rfl⟩ := e
        cases hargs with
        | cons h1 h2 =>
          cases h2 with
          | cons h2 h3 =>
            cases h3
            cases h1
            cases h2
            obtain ⟨fn, f1, f2, f3, f4, f5⟩ := hc.fn
            unfold CallWp
            have : (callFunc f [Value.string ⟨s.toArray⟩, .int .u8 (Int.ofNat c)].toArray).run E.P w = .ok (.value (.int .i64 (Int.ofNat (countA c s)))) w := by
              rw [run_callFunc_extern f1 f2 f3 f4 f5]
              have e3 : [Value.string ⟨s.toArray⟩, .int .u8 (Int.ofNat c)].toArray = #[Value.string ⟨s.toArray⟩, .int .u8 (Int.ofNat c)] := rfl
              rw [e3]
              have hfold := count_fold c (by omega) s 0
              have hb2 := fold_bytes (fun (n : Int) x => if x == c.toUInt8 then n + 1 else n) ⟨s.toArray⟩ 0
              have e4 : (⟨s.toArray⟩ : ByteArray).data.toList = s := by simp
              rw [e4, hfold, Int.zero_add] at hb2
              have hrun : (Extern.BytealgCount.count #[Value.string ⟨s.toArray⟩, .int .u8 (Int.ofNat c)]).run E.P w = .ok (.int .i64 (Int.ofNat (countA c s))) w := by
                change Sem.run E.P (do
                  let b ← Extern.Bytes.bytesOf (.string ⟨s.toArray⟩)
                  let c' ← Extern.Bytes.asByte (.int .u8 (Int.ofNat c))
                  pure (goInt (b.foldl (fun n x => if x == c' then n + 1 else n) (0 : Nat)))) w = _
                simp only [Extern.Bytes.bytesOf, Extern.Bytes.asByte, Sem.run_bind, Sem.run_pure, Result.andThen]
                have e5 : (Int.ofNat c).toNat.toUInt8 = c.toUInt8 := rfl
                rw [e5]
                show Result.ok (goInt (ByteArray.foldl (fun (n : Int) x => if x == c.toUInt8 then n + 1 else n) 0 ⟨s.toArray⟩)) w = _
                rw [hb2]
                rfl
              rw [hrun]
              rfl
            rw [this]
            exact ⟨γ, .int _ _, hrel, .refl _ _ _ _⟩
      · cases e
    · cases e
  · have := @hookX_ok { E with hook := hookX ib } ib rfl hb f as H H' v e γ N w as' ⟨hrel.blk, hrel.low, hrel.inj, hrel.glob, hrel.sym⟩ hN hargs hf
    exact callWp_mono this fun v' w' ⟨γ', a, b, c⟩ => ⟨γ', a, ⟨b.blk, b.low, b.inj, b.glob, b.sym⟩, c⟩
end Go.Proofs.YtfcfliclmjikkaaGreatDoor.Ex
