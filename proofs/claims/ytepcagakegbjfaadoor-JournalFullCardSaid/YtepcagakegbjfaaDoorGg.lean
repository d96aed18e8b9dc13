/- Falls and plans beside a journal. -/
import Derived.Test.YtepcagakegbjfaaDoorGf
import Derived.Laws.CopyRow
import Derived.ChangeSlices
import Derived.Deep.Slices
import Derived.WideShapes
import Derived.Below
namespace Go.Proofs.YtepcagakegbjfaaDoor
open Go.RowKit Go.Proofs.YtepcagakegbjfaaDoorW.PrintWords
open Jr (bs lb bs_lb lb_bs bs_app okLine TapeSt addF sealF wipeF fallF newSt Has Mes Out Down Jn Sd sizeL)

/-- A block that is none of a journal's. -/
def Far (q b tb : Nat) (row : Option Nat) (lv : Value) : Prop := q ≠ b ∧ q ≠ tb ∧ row ≠ some q ∧ lv.ownBlock ≠ some q
theorem far_apt {q b tb : Nat} {row : Option Nat} {lv : Value} (h : Far q b tb row lv) : Apt (.slice (some ⟨q, 0, none⟩) 0 0) b tb row lv := fun k hk => by
  cases hk
  exact h
theorem grown_set (W : World) (q i : Nat) (v : Value) : W.grownBy (W.setCell ⟨q, i, none⟩ v) (some q) :=
  ⟨rfl, rfl, rfl, by show W.heap.size ≤ (W.heap.modify _ _).size; rw [Array.size_modify]; exact Nat.le_refl _, fun k _ hk => Below.heap_setCell _ _ _ k (fun e => hk (by rw [e]))⟩
theorem jat_set {w : World} {bas b tb q : Nat} {row : Option Nat} {lv : Value} {st : TapeSt} {j : Jn} (hJ : Jat w bas b tb row lv st j) (hf : Far q b tb row lv) (i : Nat) (v : Value) : Jat (w.setCell ⟨q, i, none⟩ v) bas b tb row lv st j :=
  jat_grown (v := .slice (some ⟨q, 0, none⟩) 0 0) hJ (grown_set w q i v) (far_apt hf)
theorem tape_set {w : World} {bas tb q : Nat} {row : Option Nat} {st : TapeSt} (hT : TapeAt w bas tb row st) (h1 : q ≠ tb) (h2 : row ≠ some q) (i : Nat) (v : Value) : TapeAt (w.setCell ⟨q, i, none⟩ v) bas tb row st := by
  obtain ⟨tv, hr, hb, hB, hO⟩ := hT
  have hg := grown_set w q i v
  refine ⟨tv, hr, hb, (hg.block tb (blk_lt hB) (fun e => h1 (by cases e; rfl))).trans hB, own_move hO fun k hk => hg.block k (own_lt hO k hk) (fun e => h2 (by cases e; rw [← hr]; exact hk))⟩
/-- Through a journal's call. -/
theorem far_call {w w' : World} {q b tb : Nat} {row row' : Option Nat} {lv lv' : Value} (hq : q < w.heap.size) (h : Far q b tb row lv) (hF : FrJ w w' b tb row) (hr : RowOk w row row') (hlv : RowOk w lv.ownBlock lv'.ownBlock) :
    w'.heap[q]? = w.heap[q]? ∧ Far q b tb row' lv' := by
  obtain ⟨h1, h2, h3, h4⟩ := h
  refine ⟨hF.block q hq h1 h2 (fun e => h3 e.symm), h1, h2, fun e => ?_, fun e => ?_⟩
  · rcases hr q e with x | x
    · exact h3 x
    · omega
  · rcases hlv q e with x | x
    · exact h4 x
    · omega
/-- Fall, in plain words. -/
theorem fall_glue (bas tb : Nat) (row : Option Nat) (st : TapeSt) (B c : Nat) (room crash keep torn : Int) (w : World) (hT : TapeAt w bas tb row st) (hM : Mes st B c) (hB : B ≤ 1000000) (hc : c < 100000) :
    Calls Tryd.prog 21 #[.pointer (some ⟨tb, 0, none⟩), .agg #[.int .i64 room, .int .i64 crash, .int .i64 keep, .int .i64 torn]] w
      fun e w' => e = .returned (.tuple #[]) ∧ ∃ row', TapeAt w' bas tb row' (fallF st room crash keep torn) ∧ RowOk w row row' ∧ Fr w w' tb row ∧ Mes (fallF st room crash keep torn) B 0 :=
  (fall_any bas tb row st room crash keep torn w hT (mes_ok hM (by omega) (by omega))).mono fun e w' ⟨h1, row', h2, h3, h4⟩ => ⟨h1, row', h2, h3, h4, hM.fall _ _ _ _⟩
theorem fr_far {w w' : World} {q tb : Nat} {row row' : Option Nat} (hq : q < w.heap.size) (h1 : q ≠ tb) (h2 : row ≠ some q) (hF : Fr w w' tb row) (hr : RowOk w row row') : w'.heap[q]? = w.heap[q]? ∧ row' ≠ some q :=
  ⟨hF.block q hq h1 (fun e => h2 e.symm), fun e => by
    rcases hr q e with x | x
    · exact h2 x
    · omega⟩
theorem fr_below {w w' : World} {bas tb : Nat} {row : Option Nat} {st : TapeSt} (hT : TapeAt w bas tb row st) (hs : bas ≤ w.heap.size) (hF : Fr w w' tb row) : Below bas w w' :=
  ⟨hF.os, hF.tape, hF.output, hF.size, fun k hk => hF.block k (by omega) (by have := hT.low.1; omega) (fun e => by have := hT.low.2 k e.symm; omega)⟩
theorem sizeL_lines {ln : Int → ByteArray} (hln : LineSpec ln) : ∀ (xs : List Int), (∀ x ∈ xs, U8 x) → sizeL ((xs.map ln).map lb) ≤ 53 * xs.length
  | [], _ => Nat.le_refl _
  | x :: xs, h => by
    have ih := sizeL_lines hln xs (fun y hy => h y (List.mem_cons_of_mem _ hy))
    have h1 := (hln.ok x (h x (List.mem_cons_self ..))).1
    have e : (lb (ln x)).length = (ln x).size := Jr.lb_length _
    show (lb (ln x)).length + 8 + sizeL ((xs.map ln).map lb) ≤ 53 * (xs.length + 1)
    omega
theorem sizeL_set : ∀ (l : List ByteArray) (k : Nat) (x : ByteArray), sizeL ((l.set k x).map lb) ≤ sizeL (l.map lb) + x.size + 8
  | [], k, x => by simp [sizeL]
  | y :: l, 0, x => by
    show x.size + 8 + sizeL (l.map lb) ≤ (lb y).length + 8 + sizeL (l.map lb) + x.size + 8
    omega
  | y :: l, k + 1, x => by
    have ih := sizeL_set l k x
    show (lb y).length + 8 + sizeL ((l.set k x).map lb) ≤ (lb y).length + 8 + sizeL (l.map lb) + x.size + 8
    omega
theorem lines_ok {ln : Int → ByteArray} (hln : LineSpec ln) {xs : List Int} (h : ∀ x ∈ xs, U8 x) : ∀ s ∈ xs.map ln, okLine (lb s) = true := by
  intro s hs
  obtain ⟨x, hx, rfl⟩ := List.mem_map.1 hs
  exact (hln.ok x (h x hx)).2
/-- Save of a row of the law's own. -/
theorem save_own (bas b tb : Nat) (row : Option Nat) (lv : Value) (st : TapeSt) (j : Jn) (xs : List Jr.S) (B c : Nat) (v : Value) (bv : Nat) (ls : List ByteArray) (w : World) (hg : Gl w) (h8 : 8 ≤ bas) (hbs : bas ≤ w.heap.size)
    (hJ : Jat w bas b tb row lv st j) (hH : Has st j xs) (hM : Mes st B c) (hc : c < 100000) (hr : st.room ≤ 1000000) (ht : j.turn ≤ 1000000)
    (ho : OwnLines w bv v ls) (ha : Apt v b tb row lv) (hln : ls.length ≤ 1000) (hok : ∀ s ∈ ls, okLine (lb s) = true) (hroom : ((B + 26 + sizeL (ls.map lb) : Nat) : Int) ≤ st.room) :
    Calls Tryd.prog 15 #[.pointer (some ⟨b, 0, none⟩), v] w (Left w bas b tb row lv st j (ls.map lb) (B + 26 + sizeL (ls.map lb)) (c + 3)) := by
  have hl := ho.lines
  obtain ⟨A, c2, rfl⟩ := own_slice ho
  exact save_glue bas b tb row lv st j xs B c A c2 ls w hg h8 hbs hJ hH hM hc hr ht hl (fun a e => by
    subst e
    obtain ⟨h1, h2, h3, _⟩ := ha a.block rfl
    exact ⟨h1, h2, h3⟩) hln hok hroom
/-- Behind a call, and a fall. -/
theorem out_fall {st st' : TapeSt} {j j' : Jn} {L : List Jr.S} {code : Int} (h : Out st st' j j' L code) (room crash keep torn : Int) :
    ∃ j1 xs, Has (fallF st' room crash keep torn) j1 xs ∧ (code = 0 ∧ j1.lines = L ∨ code = 16 ∧ (j1.lines = j.lines ∨ j1.lines = L)) ∧ j1.turn ≤ j.turn + 1 := by
  cases h with
  | ok h0 xs h hl ht ht1 hc => exact ⟨j', xs, h.fall room crash keep torn, .inl ⟨h0, hl⟩, ht⟩
  | fell h0 h =>
    obtain ⟨j1, xs, h1, h2, h3⟩ := h.2 room crash keep torn
    exact ⟨j1, xs, h1, .inr ⟨h0, h2⟩, h3⟩
/-- Texts, wherever the rows lie on. -/
theorem texts_on {w : World} {b b' : Nat} {v v' : Value} {l l' : List ByteArray} (ho : OwnLines w b v l) (ho' : OwnLines w b' v' l') (hn : l.length < 1000000) (r : Bool) (hr : decide (l = l') = r) :
    ∀ w', Below w.heap.size w w' → Calls Tryd.prog 18 #[v, v'] w' fun e w'' => e = .returned (.bool r) ∧ Below w.heap.size w w'' := fun w' hb => by
  refine (texts_own (w := w') (pw_own_below ho hb) (pw_own_below ho' hb) hn).mono ?_
  rintro e w'' ⟨rfl, hd⟩
  exact ⟨by rw [hr], hb.trans (hd.below.mono hb.size)⟩
section
variable {P : Program} {ops : Array Oper} {rest : List Oper} {o : Oper} {a : Act} {Q : Exit → Act → World → Prop} {W : World}
theorem info28 : (Tryd.prog.info? 28).map (·.size) = some 4 := by kernel_rfl
/-- A plan is stored over another. -/
theorem store_plan (hg : o.guard = none) (hd : o.dst = none) (p x : Operand) (ho : o.op = .store 28 p x) (q : Nat) (hp : a.eval p = .pointer (some ⟨q, 0, none⟩)) (v0 v1 v2 v3 : Int) (hx : a.eval x = .agg #[.int .i64 v0, .int .i64 v1, .int .i64 v2, .int .i64 v3])
    (u0 u1 u2 u3 : Value) (hq : W.heap[q]? = some (.cells #[u0, u1, u2, u3] 28 (0, 0))) (h : wpList Tryd.prog ops Q rest a (W.setRow q #[.int .i64 v0, .int .i64 v1, .int .i64 v2, .int .i64 v3])) :
    wpList Tryd.prog ops Q (o :: rest) a W := by
  refine wpList_plain hg fun K hK => ?_
  have hst := run_storeCells_at Tryd.prog q 0 28 [.int .i64 v0, .int .i64 v1, .int .i64 v2, .int .i64 v3] 0 #[u0, u1, u2, u3] W hq (by simp) (by simp [Value.oneCell'])
  have hi := info28
  unfold Oper.wp execOp
  cases hq' : Tryd.prog.info? 28 with
  | none => rw [hq'] at hi; cases hi
  | some i =>
    have hs : i.size = 4 := by rw [hq'] at hi; simpa using hi
    simp at hst
    simp [ho, hp, hx, Instr.storeAt, storeVar, sizeOf, typeInfo, hq', hs, hst, Value.cells, hd, Act.put, Instr.sureAddr, Oper.upon_skip]
    exact hK _ _ h
end
theorem grown_row {W : World} {q : Nat} {cur cs : Array Value} {t : TypeId} (hq : W.heap[q]? = some (.cells cur t (0, 0))) : W.grownBy (W.setRow q cs) (some q) ∧ (W.setRow q cs).heap[q]? = some (.cells cs t (0, 0)) := by
  refine ⟨⟨rfl, rfl, rfl, ?_, fun k _ hk => ?_⟩, setRow_heap W q cur cs t (0, 0) hq⟩
  · show W.heap.size ≤ (W.heap.modify _ _).size
    rw [Array.size_modify]
    exact Nat.le_refl _
  · have hne : k ≠ q := fun e => hk (by rw [e])
    show (W.heap.modify q _)[k]? = W.heap[k]?
    rw [Array.getElem?_modify, if_neg (fun e => hne e.symm)]
theorem tape_grown {w w' : World} {bas tb q : Nat} {row : Option Nat} {st : TapeSt} (hT : TapeAt w bas tb row st) (hg : w.grownBy w' (some q)) (h1 : q ≠ tb) (h2 : row ≠ some q) : TapeAt w' bas tb row st := by
  obtain ⟨tv, hr, hb, hB, hO⟩ := hT
  refine ⟨tv, hr, hb, (hg.block tb (blk_lt hB) (fun e => h1 (by cases e; rfl))).trans hB, own_move hO fun k hk => hg.block k (own_lt hO k hk) (fun e => h2 (by cases e; rw [← hr]; exact hk))⟩
section
variable {P : Program} {ops : Array Oper} {rest : List Oper} {o : Oper} {a : Act} {Q : Exit → Act → World → Prop}
/-- An append under a guard that holds. -/
theorem append_guard (w : World) (hw : Region.wanted o (yielded ops a.tmps) = true) (s x : Operand) (t : TypeId)
    (ho : o.op = .call { callee := .builtin .append, args := #[s, x], argTypes := #[t, t] })
    (base : Nat) (e : TypeId) (i : TypeInfo) (z : Value) (size bytes : Nat) (ht : P.underlying t = some (.slice e)) (hi : P.info? e = some i) (hz : i.zero = some z)
    (hsize : i.size = size) (hby : i.bytes = bytes) (hzs : z.cells.size = size) (hsz : 0 < size)
    (v : Value) (n : Nat) (xs : List Value) (hs : a.eval s = v) (hown : w.ownsRow base e size v n xs)
    (ad : Addr) (m c : Nat) (news : List Value) (hx : a.eval x = .slice (some ad) m c) (hl : news.length = m * size) (hnews : ∀ j u, news[j]? = some u → w.cell? (ad.add j) = some u) (h1 : ∀ u ∈ news, u.oneCell' = true)
    (h63 : n + m ≤ maxLen) (hbytes : (n + m) * bytes ≤ 140737488355328) (hbase : base ≤ w.heap.size)
    (h : ∀ v' w', w'.ownsRow base e size v' (n + m) (xs ++ news) → w.grownBy w' v.ownBlock → (v'.ownBlock = v.ownBlock ∨ v'.ownBlock = some w.heap.size) → wpList P ops Q rest (a.put o.dst v') w') :
    wpList P ops Q (o :: rest) a w := by
  refine wpList_step fun K hK => ?_
  rw [if_pos hw]
  obtain ⟨v', w', hr, h2, h3, _, h5⟩ := run_append_own_at (P := P) w base t o.type e i z size bytes ht hi hz hsize hby hzs hsz v n xs hown ad m c news hl hnews h1 h63 hbytes hbase
  unfold Oper.wp execOp
  simp only [ho, resolve, invoke, builtin, Sem.run_bind, Sem.run_pure, Result.andThen_ok, List.map_toArray, List.map_cons, List.map_nil, hs, hx, hr]
  exact hK _ _ (h v' w' h2 h3 h5)
end
section
variable {P : Program} {ops : Array Oper} {o : Oper} {a : Act} {Q : Exit → Act → World → Prop} {K : Act → World → Prop} {E : Prop}
/-- An append at a step of a region that draws its order. -/
theorem step_append_any (w : World) (hgd : o.guard = none) (s x : Operand) (t : TypeId)
    (ho : o.op = .call { callee := .builtin .append, args := #[s, x], argTypes := #[t, t] })
    (base : Nat) (e : TypeId) (i : TypeInfo) (z : Value) (size bytes : Nat) (ht : P.underlying t = some (.slice e)) (hi : P.info? e = some i) (hz : i.zero = some z)
    (hsize : i.size = size) (hby : i.bytes = bytes) (hzs : z.cells.size = size) (hsz : 0 < size)
    (v : Value) (n : Nat) (xs : List Value) (hs : a.eval s = v) (hown : w.ownsRow base e size v n xs)
    (ad : Addr) (m c : Nat) (news : List Value) (hx : a.eval x = .slice (some ad) m c) (hl : news.length = m * size) (hnews : ∀ j u, news[j]? = some u → w.cell? (ad.add j) = some u) (h1 : ∀ u ∈ news, u.oneCell' = true)
    (h63 : n + m ≤ maxLen) (hbytes : (n + m) * bytes ≤ 140737488355328) (hbase : base ≤ w.heap.size)
    (h : ∀ v' w', w'.ownsRow base e size v' (n + m) (xs ++ news) → w.grownBy w' v.ownBlock → (v'.ownBlock = v.ownBlock ∨ v'.ownBlock = some w.heap.size) → K (a.put o.dst v') w') :
    if Region.wanted o (yielded ops a.tmps) = true then Oper.wp P o a w K Q else E := by
  have hw : Region.wanted o (yielded ops a.tmps) = true := by simp [Region.wanted, hgd]
  rw [if_pos hw]
  obtain ⟨v', w', hr, h2, h3, _, h5⟩ := run_append_own_at (P := P) w base t o.type e i z size bytes ht hi hz hsize hby hzs hsz v n xs hown ad m c news hl hnews h1 h63 hbytes hbase
  unfold Oper.wp execOp
  simp only [ho, resolve, invoke, builtin, Sem.run_bind, Sem.run_pure, Result.andThen_ok, List.map_toArray, List.map_cons, List.map_nil, hs, hx, hr]
  exact h v' w' h2 h3 h5
end
theorem own_empty (W : World) (base : Nat) (hb : base ≤ W.heap.size) : (W.alloc (.cells #[] 9)).ownsRow base 9 1 (.slice (some ⟨W.heap.size, 0, none⟩) 0 0) 0 [] :=
  ⟨rfl, .inr ⟨W.heap.size, 0, #[], rfl, hb, World.alloc_heap_new W _, Nat.le_refl _, Nat.zero_le _, rfl, rfl⟩⟩
/-- A row's texts, one by one, as 'append' asks for them. -/
theorem own_news {w : World} {bas : Nat} {ad : Addr} {n c : Nat} {l : List ByteArray} (h : OwnLines w bas (.slice (some ad) n c) l) : n = l.length ∧ ∀ j u, (l.map Value.string)[j]? = some u → w.cell? (ad.add j) = some u := by
  have hn : n = l.length := by
    obtain ⟨A, c2, e⟩ := own_slice h
    injection e
  refine ⟨hn, fun j u hu => ?_⟩
  rw [List.getElem?_map] at hu
  cases hj : l[j]? with
  | none => rw [hj] at hu; cases hu
  | some x =>
    rw [hj] at hu
    cases hu
    obtain ⟨hlt, hx⟩ := List.getElem?_eq_some_iff.1 hj
    rcases h.lines with ⟨h0, _⟩ | ⟨g, o, c3, e, _, hc⟩
    · rw [h0] at hlt; simp at hlt
    · injection e with e1
      injection e1 with e1
      subst e1
      have := hc j hlt
      rw [hx] at this
      have e : (⟨g, o, none⟩ : Addr).add j = ⟨g, o + j, none⟩ := by
        unfold Addr.add
        split
        · rename_i h0
          subst h0
          rfl
        · rfl
      rw [e]
      exact this
theorem own_pos {w : World} {base n size : Nat} {e : TypeId} {v : Value} {xs : List Value} (h : w.ownsRow base e size v n xs) (hn : 0 < n) : ∃ g cap, v = .slice (some ⟨g, 0, none⟩) n cap ∧ n ≤ cap := by
  rcases h.2 with ⟨_, h0⟩ | ⟨g, cap, _, rfl, _, _, hc, _⟩
  · omega
  · exact ⟨g, cap, rfl, hc⟩
theorem own_cell {w : World} {bas g n c : Nat} {l : List ByteArray} (h : OwnLines w bas (.slice (some ⟨g, 0, none⟩) n c) l) (k : Nat) (hk : k < l.length) : w.cell? ⟨g, k, none⟩ = some (.string l[k]) ∧ w.frozen? ⟨g, k, none⟩ = false := by
  refine ⟨?_, ?_⟩
  · rcases h.lines with ⟨h0, _⟩ | ⟨g2, o, c3, e, _, hc⟩
    · rw [h0] at hk; simp at hk
    · injection e with e1
      injection e1 with e1
      injection e1 with e1 e2
      subst e1 e2
      have := hc k hk
      rw [Nat.zero_add] at this
      exact this
  · rcases h.2 with ⟨e, _⟩ | ⟨g2, cap, cur, e, _, hB, _⟩
    · cases e
    · injection e with e1
      injection e1 with e1
      injection e1 with e1
      subst e1
      exact blk_frozen hB k
/-- A store into a row of the law's own. -/
theorem own_set {w : World} {bas g n c : Nat} {l : List ByteArray} (h : OwnLines w bas (.slice (some ⟨g, 0, none⟩) n c) l) (k : Nat) (x : ByteArray) : OwnLines (w.setCell ⟨g, k, none⟩ (.string x)) bas (.slice (some ⟨g, 0, none⟩) n c) (l.set k x) := by
  have hn : n = l.length := by
    obtain ⟨A, c2, e⟩ := own_slice h
    injection e
  subst hn
  have := (own_store_of (enc := Value.string) h (k : Int) x).1
  unfold OwnLines
  rw [List.length_set]
  exact this
theorem own_none_nil {w : World} {bas n c : Nat} {l : List ByteArray} (h : OwnLines w bas (.slice none n c) l) : n = 0 ∧ c = 0 ∧ l = [] := by
  rcases h.2 with ⟨e, h0⟩ | ⟨g, cap, cur, e, _⟩
  · injection e with _ e1 e2
    exact ⟨e1, e2, List.length_eq_zero_iff.1 h0⟩
  · injection e with e1
    cases e1
end Go.Proofs.YtepcagakegbjfaaDoor
/- What a row's arguments say: slices of bytes. -/
namespace Go.Proofs.YtepcagakegbjfaaDoor
open Go.RowKit Go.ChangeShapes Go.WideShapes Go.Proofs.YtepcagakegbjfaaDoorW.PrintWords

theorem laidOut : laidOutB Tryd.prog = true := by kernel_rfl
/-- A slice of bytes as a walk reads it. -/
def BytesAt (w : World) (v : Value) (xs : List Int) : Prop := ∃ A c, v = .slice A xs.length c ∧ xs.length ≤ c ∧ Kd.C (Kd.int .u8) w A xs.length xs ∧ ∀ x ∈ xs, U8 x
theorem bytes_trod {H : Type} {enc : TypeId × Value → H} {w : World} {sp : Nat → Bool} {held : Bool} {fuel : Nat} {v : Value} {x : DataW H × List MemPlace} (h : DataW.trod enc Tryd.prog w 0 sp held fuel 35 [v] = some x) : ∃ xs, BytesAt w v xs := by
  rcases open_ints Tryd.underlying35 Tryd.underlying5 (by kernel_rfl) h with ⟨e, _⟩ | ⟨a, len, cap, zs, e, _, hl, hm, hz, _, hc, hw⟩
  · injection e with e
    subst e
    exact ⟨[], none, 0, rfl, Nat.le_refl _, ⟨rfl, Nat.zero_le _, fun h => absurd h (by decide)⟩, fun x hx => by cases hx⟩
  · injection e with e
    subst e
    have hlz : len ≤ zs.length := by rw [hz]; split <;> omega
    have hlt : (zs.take len).length = len := by rw [List.length_take]; omega
    refine ⟨zs.take len, some a, cap, by rw [hlt], by rw [hlt]; exact hl, ⟨rfl, by rw [hlt]; exact Nat.le_trans hl hm, fun _ => ⟨a, rfl, fun j p hj => ⟨[.int .u8 p], rfl, rfl, fun i u hu => ?_⟩⟩⟩, fun x hx => u8_of (hw x (List.mem_of_mem_take hx))⟩
    obtain rfl : i = 0 := by
      have := (List.getElem?_eq_some_iff.1 hu).1
      simp at this
      omega
    cases hu
    obtain ⟨hj1, hj2⟩ := List.getElem?_eq_some_iff.1 hj
    rw [hlt] at hj1
    have := hc j (by omega)
    rw [show j * (Kd.int .u8).sz + 0 = j from by show j * 1 + 0 = j; omega]
    rw [this]
    congr 2
    rw [← hj2, List.getD_eq_getElem?_getD, List.getElem?_eq_getElem (by omega), List.getElem_take]
    rfl
theorem bytes_open {H : Type} {enc : TypeId × Value → H} {w : World} {sp : Nat → Bool} {held : Bool} {v : Value} {d : DataW H} {p : List MemPlace} (hs : ∃ a n c, v = .slice a n c) (h : DataW.Trod enc Tryd.prog w 0 sp held 35 v d p) : ∃ xs, BytesAt w v xs := by
  obtain ⟨A, n, c, rfl⟩ := hs
  obtain ⟨fuel, hf⟩ := h
  exact bytes_trod hf
theorem BytesAt.below {w w' : World} {v : Value} {xs : List Int} (h : BytesAt w v xs) (hb : Below w.heap.size w w') : BytesAt w' v xs := by
  obtain ⟨A, c, rfl, h1, h2, h3⟩ := h
  exact ⟨A, c, rfl, h1, Kd.C_below h2 hb, h3⟩
/-- A slice of slices of bytes, as a walk reads it. -/
def RowsAt (w : World) (v : Value) (xss : List (List Int)) : Prop := ∃ A c, v = .slice A xss.length c ∧ ∀ i (h : i < xss.length), ∃ ad u, A = some ad ∧ w.cell? (ad.add i) = some u ∧ BytesAt w u xss[i]
/-- A slice of truths. -/
def BoolsAt (w : World) (v : Value) (bl : List Bool) : Prop := ∃ A c, v = .slice A bl.length c ∧ ∀ i (h : i < bl.length), ∃ ad, A = some ad ∧ w.cell? (ad.add i) = some (.bool bl[i])
theorem choose_list {α : Type} {P : Nat → α → Prop} : ∀ n : Nat, (∀ i, i < n → ∃ x, P i x) → ∃ l : List α, l.length = n ∧ ∀ i (h : i < l.length), P i l[i]
  | 0, _ => ⟨[], rfl, fun i h => absurd h (by simp)⟩
  | n + 1, h => by
    obtain ⟨l, h1, h2⟩ := choose_list n (fun i hi => h i (by omega))
    obtain ⟨x, hx⟩ := h n (by omega)
    refine ⟨l ++ [x], by rw [List.length_append, h1]; rfl, fun i hi => ?_⟩
    rw [List.length_append, List.length_singleton] at hi
    by_cases e : i < l.length
    · rw [List.getElem_append_left e]; exact h2 i e
    · obtain rfl : i = l.length := by omega
      rw [List.getElem_append_right (Nat.le_refl _)]
      simp only [Nat.sub_self, List.getElem_cons_zero]
      rw [h1]
      exact hx
theorem rows_open {H : Type} {enc : TypeId × Value → H} {w : World} {sp : Nat → Bool} {held : Bool} {v : Value} {d : DataW H} {p : List MemPlace} (hs : ∃ a n c, v = .slice a n c) (h : DataW.Trod enc Tryd.prog w 0 sp held 22 v d p) : ∃ xss, RowsAt w v xss := by
  obtain ⟨A, n, c, rfl⟩ := hs
  obtain ⟨fuel, hf⟩ := h
  rcases Deep.open_slice1 Tryd.underlying22 (by kernel_rfl) hf with ⟨e, _⟩ | ⟨a, len, cap, m, n', V, D, Pl, e, _, hl, _, hm, _, hx⟩
  · simp [Value.cells] at e
    obtain ⟨rfl, rfl, rfl⟩ := e
    exact ⟨[], none, 0, rfl, fun i h => absurd h (by simp)⟩
  · simp [Value.cells] at e
    obtain ⟨rfl, rfl, rfl⟩ := e
    have hml : n ≤ m := by rw [hm]; split <;> omega
    obtain ⟨xss, h1, h2⟩ := choose_list (P := fun i xs => BytesAt w (V i) xs) n (fun i hi => bytes_trod (hx i (by omega)).2)
    subst h1
    exact ⟨xss, some a, c, rfl, fun i hi => ⟨a, V i, rfl, (hx i (by omega)).1, h2 i hi⟩⟩
theorem bools_open {H : Type} {enc : TypeId × Value → H} {w : World} {sp : Nat → Bool} {held : Bool} {v : Value} {d : DataW H} {p : List MemPlace} (hs : ∃ a n c, v = .slice a n c) (h : DataW.Trod enc Tryd.prog w 0 sp held 23 v d p) : ∃ bl, BoolsAt w v bl := by
  obtain ⟨A, n, c, rfl⟩ := hs
  obtain ⟨fuel, hf⟩ := h
  rcases Deep.open_slice1 Tryd.underlying23 (by kernel_rfl) hf with ⟨e, _⟩ | ⟨a, len, cap, m, n', V, D, Pl, e, _, hl, _, hm, _, hx⟩
  · simp [Value.cells] at e
    obtain ⟨rfl, rfl, rfl⟩ := e
    exact ⟨[], none, 0, rfl, fun i h => absurd h (by simp)⟩
  · simp [Value.cells] at e
    obtain ⟨rfl, rfl, rfl⟩ := e
    have hml : n ≤ m := by rw [hm]; split <;> omega
    have hb : ∀ i, i < m → ∃ b, V i = .bool b := fun i hi => by
      have := (hx i hi).2
      cases n' with
      | zero => simp [DataW.trod] at this
      | succ k => cases hV : V i <;> simp [hV, DataW.trod, Tryd.underlying4] at this; exact ⟨_, rfl⟩
    obtain ⟨bl, h1, h2⟩ := choose_list (P := fun i b => V i = .bool b) n (fun i hi => hb i (by omega))
    subst h1
    exact ⟨bl, some a, c, rfl, fun i hi => ⟨a, rfl, by rw [(hx i (by omega)).1, h2 i hi]⟩⟩
end Go.Proofs.YtepcagakegbjfaaDoor
