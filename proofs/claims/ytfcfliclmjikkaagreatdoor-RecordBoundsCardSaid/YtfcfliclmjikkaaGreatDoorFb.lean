/- The fast twin: its slots, tables and readers are the plain runner's. -/
import Derived.Test.YtfcfliclmjikkaaGreatDoorFa
import Derived.Test.YtfcfliclmjikkaaGreatDoorEyb
namespace Go.Proofs.YtfcfliclmjikkaaGreatDoor.Ex
open Go
set_option linter.unusedVariables false
set_option linter.unusedSimpArgs false

theorem optK_some {α : Type} (v : α) (k : α → Res) : optK (some v) k = k v := rfl
theorem optK_none {α : Type} (k : α → Res) : optK none k = none := rfl
theorem optK_ok {α : Type} {x : Option α} {k : α → Res} {r : Ext × AV × AH} (h : optK x k = some r) : ∃ v, x = some v ∧ k v = some r := by
  cases x with
  | none => cases h
  | some v => exact ⟨v, rfl, h⟩
theorem finN_eq (n : Nat) (k : Nat → Res) : finN n k = k n := by cases n <;> rfl
theorem iteK_ok {b : Bool} {x y : Res} {r : Ext × AV × AH} (h : iteK b x y = some r) : (b = true ∧ x = some r) ∨ (b = false ∧ y = some r) := by
  cases b
  · exact .inr ⟨rfl, h⟩
  · exact .inl ⟨rfl, h⟩
theorem iteK_one {b : Bool} {x : Res} {r : Ext × AV × AH} (h : iteK b x none = some r) : b = true ∧ x = some r := by
  cases b
  · cases h
  · exact ⟨rfl, h⟩
theorem boolK_eq (b : Bool) (k : KA) : boolK b k = k (.bool b) := by cases b <;> rfl

theorem ifInt_ok {x : AV} {y : IntKind → Int → Res} {n : Res} {r : Ext × AV × AH} (h : x.ifInt y n = some r) : (∃ k i, x = .int k i ∧ y k i = some r) ∨ n = some r := by
  cases x <;> first | exact .inl ⟨_, _, rfl, h⟩ | exact .inr h
theorem ifBool_ok {x : AV} {y : Bool → Res} {n : Res} {r : Ext × AV × AH} (h : x.ifBool y n = some r) : (∃ b, x = .bool b ∧ y b = some r) ∨ n = some r := by
  cases x <;> first | exact .inl ⟨_, rfl, h⟩ | exact .inr h
theorem ifStr_ok {x : AV} {y : List UInt8 → Res} {n : Res} {r : Ext × AV × AH} (h : x.ifStr y n = some r) : (∃ s, x = .str s ∧ y s = some r) ∨ n = some r := by
  cases x <;> first | exact .inl ⟨_, rfl, h⟩ | exact .inr h
theorem ifPtr_ok {x : AV} {y : Nat → Nat → Res} {n : Res} {r : Ext × AV × AH} (h : x.ifPtr y n = some r) : (∃ b o, x = .ptr b o ∧ y b o = some r) ∨ n = some r := by
  cases x <;> first | exact .inl ⟨_, _, rfl, h⟩ | exact .inr h
theorem ifSl_ok {x : AV} {y : Nat → Nat → Nat → Nat → Res} {z n : Res} {r : Ext × AV × AH} (h : x.ifSl y z n = some r) : (∃ b o l e f, x = .slice b o l e f ∧ y b o l e = some r) ∨ (x = .nilslice ∧ z = some r) ∨ n = some r := by
  cases x <;> first | exact .inl ⟨_, _, _, _, _, rfl, h⟩ | exact .inr (.inl ⟨rfl, h⟩) | exact .inr (.inr h)
theorem ifTup_ok {x : AV} {y : List AV → Res} {n : Res} {r : Ext × AV × AH} (h : x.ifTup y n = some r) : (∃ l, x = .tup l ∧ y l = some r) ∨ n = some r := by
  cases x <;> first | exact .inl ⟨_, rfl, h⟩ | exact .inr h
theorem ifFunc_ok {x : AV} {y : FuncId → List AV → List AV → Res} {n : Res} {r : Ext × AV × AH} (h : x.ifFunc y n = some r) : (∃ f a b, x = .func f a b ∧ y f a b = some r) ∨ n = some r := by
  cases x <;> first | exact .inl ⟨_, _, _, rfl, h⟩ | exact .inr h

/-! ### Slots -/
theorem dig_get (α : Type) (i : Nat) (n : N8 α) (k : α → Res) : (dig α i).get n k = k (n.sel i) := by
  rcases i with _ | _ | _ | _ | _ | _ | _ | i <;> rfl
theorem dig_up (α : Type) (i : Nat) (g : α → (α → Res) → Res) (n : N8 α) (k : N8 α → Res) : (dig α i).up g n k = g (n.sel i) fun y => k (n.upd i fun _ => y) := by
  obtain ⟨a0, a1, a2, a3, a4, a5, a6, a7⟩ := n
  rcases i with _ | _ | _ | _ | _ | _ | _ | i <;> rfl
def look (F : NF) (t : Nat) : AV := ((F.sel (t / 64 % 8)).sel (t / 8 % 8)).sel (t % 8)
def upF (F : NF) (t : Nat) (v : AV) : NF := F.upd (t / 64 % 8) fun a => a.upd (t / 8 % 8) fun b => b.upd (t % 8) fun _ => v
theorem slot_get (t : Nat) (F : NF) (k : KA) : (slotOf t).get F k = k (look F t) := by
  show (dig _ (t / 64 % 8)).get F (fun x => (dig _ (t / 8 % 8)).get x fun y => (dig _ (t % 8)).get y k) = _
  rw [dig_get, dig_get, dig_get]
  rfl
theorem upd_const {α : Type} (n : N8 α) (i : Nat) (f : α → α) : (n.upd i fun _ => f (n.sel i)) = n.upd i f := by
  obtain ⟨a0, a1, a2, a3, a4, a5, a6, a7⟩ := n
  rcases i with _ | _ | _ | _ | _ | _ | _ | i <;> rfl
theorem upd_in {α : Type} (n : N8 (N8 α)) (i j : Nat) (f : α → α) : (n.upd i fun _ => (n.sel i).upd j f) = n.upd i fun a => a.upd j f := upd_const n i (fun a => a.upd j f)
theorem slot_set (t : Nat) (v : AV) (F : NF) (k : NF → Res) : (slotOf t).set v F k = k (upF F t v) := by
  show (dig _ (t / 64 % 8)).up (fun b k => (dig _ (t / 8 % 8)).up (fun c k => (dig _ (t % 8)).up (fun _ k => k v) c k) b k) F k = _
  simp only [dig_up, upd_in]
  rfl
theorem look_up (F : NF) {t u : Nat} (v : AV) (ht : t < 512) (hu : u < 512) : look (upF F u v) t = if u = t then v else look F t := by
  unfold look upF
  rw [N8.sel_upd _ _ (by omega) (by omega)]
  by_cases e : u = t
  · subst e
    rw [if_pos rfl, N8.sel_upd_same, N8.sel_upd_same, if_pos rfl]
  · rw [if_neg e]
    split
    · rw [N8.sel_upd _ _ (by omega) (by omega)]
      split
      · rw [N8.sel_upd_ne _ _ (by omega) (by omega) (by omega)]
      · rfl
    · rfl

/-- A frame of the twin's reads as the runner's. -/
def RF (F : NF) (G : Fr) : Prop := ∀ t, t < 512 → look F t = tmpA G t
theorem RF.set {F : NF} {G : Fr} (h : RF F G) {u : Nat} (hu : u < 512) (v : AV) : RF (upF F u v) (G.set u v) := fun t ht => by
  rw [look_up F v ht hu, tmpA_set, h t ht]

def wrV (d : Option Nat) (v : AV) (F : NF) : NF := match d with
  | none => F
  | some t => upF F t v
theorem wr_eq (d : Option Nat) (v : AV) (F : NF) (k : NF → Res) : (wrOf d).run v F k = k (wrV d v F) := by
  cases d with
  | none => rfl
  | some t => exact slot_set t v F k
def opdV (F : NF) : COpd → AV
  | .t i => look F i
  | .c v => v
theorem rd_eq (x : COpd) (F : NF) (k : KA) : (rdOf x).run F k = k (opdV F x) := by
  cases x with
  | t i => exact slot_get i F k
  | c v => rfl
theorem rds_eq : ∀ (l : List COpd) (F : NF) (k : List AV → Res), (rdsOf l).run F k = k (l.map (opdV F))
  | [], F, k => rfl
  | x :: l, F, k => by
    show (rdOf x).run F (fun v => (rdsOf l).run F fun r => k (v :: r)) = _
    rw [rd_eq, rds_eq l]
    rfl
theorem rdo_eq (x : Option COpd) (F : NF) (k : Option AV → Res) : (rdoOf x).run F k = k (x.map (opdV F)) := by
  cases x with
  | none => rfl
  | some x => exact rd_eq x F _

/-! ### Tables -/
theorem canD_eq {α : Type} (n : Nat) (k : Nat → TrC α) : canD n k = k n := by cases n <;> rfl
theorem trc0_get {α : Type} (d0 : Dg (Option α)) (t : Tr α) (k : α → Res) : (trc0 α d0).get t k = d0.get t.s0 fun x => optK x k := rfl
theorem trc0_set {α : Type} (d0 : Dg (Option α)) (t : Tr α) (x : α) (k : Tr α → Res) : (trc0 α d0).set x t k = d0.up (fun _ k => k (some x)) t.s0 fun r => k { t with s0 := r } := rfl
theorem ble_lt (i n : Nat) : Nat.ble i n = decide (i < n + 1) := by
  by_cases h : i < n + 1
  · rw [decide_eq_true h, Nat.ble_eq]; omega
  · rw [decide_eq_false h]
    cases q : Nat.ble i n with
    | false => rfl
    | true => rw [Nat.ble_eq] at q; omega
theorem trc_lvl {α : Type} (i : Nat) : trc α i = match lvl i with
    | 0 => trl0 α i
    | 1 => trl1 α i
    | 2 => trl2 α i
    | 3 => trl3 α i
    | 4 => trl4 α i
    | _ => trl5 α i := by
  unfold trc trm1 trm2 trm3 trm4
  rw [ble_lt i 7, ble_lt i 63, ble_lt i 511, ble_lt i 4095, ble_lt i 32767]
  rcases lvl_cases i with ⟨e, h⟩ | ⟨e, h⟩ | ⟨e, h⟩ | ⟨e, h⟩ | ⟨e, h⟩ | ⟨e, h⟩ <;> rw [e]
  · rw [decide_eq_true (by omega : i < 7 + 1)]
    rfl
  · rw [decide_eq_false (by omega : ¬ i < 7 + 1), decide_eq_true (by omega : i < 63 + 1)]
    rfl
  · rw [decide_eq_false (by omega : ¬ i < 7 + 1), decide_eq_false (by omega : ¬ i < 63 + 1), decide_eq_true (by omega : i < 511 + 1)]
    rfl
  · rw [decide_eq_false (by omega : ¬ i < 7 + 1), decide_eq_false (by omega : ¬ i < 63 + 1), decide_eq_false (by omega : ¬ i < 511 + 1), decide_eq_true (by omega : i < 4095 + 1)]
    rfl
  · rw [decide_eq_false (by omega : ¬ i < 7 + 1), decide_eq_false (by omega : ¬ i < 63 + 1), decide_eq_false (by omega : ¬ i < 511 + 1), decide_eq_false (by omega : ¬ i < 4095 + 1), decide_eq_true (by omega : i < 32767 + 1)]
    rfl
  · rw [decide_eq_false (by omega : ¬ i < 7 + 1), decide_eq_false (by omega : ¬ i < 63 + 1), decide_eq_false (by omega : ¬ i < 511 + 1), decide_eq_false (by omega : ¬ i < 4095 + 1), decide_eq_false (by omega : ¬ i < 32767 + 1)]
    rfl
theorem getK_eq {α : Type} (t : Tr α) (i : Nat) (k : α → Res) : getK t i k = optK (t.get i) k := by
  unfold getK
  rw [trc_lvl]
  rcases lvl_cases i with ⟨e, h⟩ | ⟨e, h⟩ | ⟨e, h⟩ | ⟨e, h⟩ | ⟨e, h⟩ | ⟨e, h⟩ <;> simp only [e, Tr.get]
  · show (dig _ i).get t.s0 _ = _
    rw [dig_get]
  · unfold trl1
    simp only [canD_eq]
    show (dig _ (i / 8)).get t.s1 (fun x => (dig _ (i % 8)).get x fun x => optK x k) = _
    rw [dig_get, dig_get]
  · unfold trl2
    simp only [canD_eq]
    show (dig _ (i / 64)).get t.s2 (fun x => (dig _ (i / 8 % 8)).get x fun x => (dig _ (i % 8)).get x fun x => optK x k) = _
    rw [dig_get, dig_get, dig_get]
  · unfold trl3
    simp only [canD_eq]
    show (dig _ (i / 512)).get t.s3 (fun x => (dig _ (i / 64 % 8)).get x fun x => (dig _ (i / 8 % 8)).get x fun x => (dig _ (i % 8)).get x fun x => optK x k) = _
    rw [dig_get, dig_get, dig_get, dig_get]
  · unfold trl4
    simp only [canD_eq]
    show (dig _ (i / 4096)).get t.s4 (fun x => (dig _ (i / 512 % 8)).get x fun x => (dig _ (i / 64 % 8)).get x fun x => (dig _ (i / 8 % 8)).get x fun x => (dig _ (i % 8)).get x fun x => optK x k) = _
    rw [dig_get, dig_get, dig_get, dig_get, dig_get]
  · show optK (t.get i) k = _
    simp only [Tr.get, e]
theorem setK_eq {α : Type} (t : Tr α) (i : Nat) (x : α) (k : Tr α → Res) : setK t i x k = k (t.set i x) := by
  unfold setK Tr.set
  rw [trc_lvl]
  rcases lvl_cases i with ⟨e, h⟩ | ⟨e, h⟩ | ⟨e, h⟩ | ⟨e, h⟩ | ⟨e, h⟩ | ⟨e, h⟩ <;> simp only [e, Tr.upd]
  · show (dig _ i).up (fun _ k => k (some x)) t.s0 _ = _
    rw [dig_up]
  · unfold trl1
    simp only [canD_eq]
    show (dig _ (i / 8)).up (fun y k => (dig _ (i % 8)).up (fun _ k => k (some x)) y k) t.s1 (fun r => k { t with s1 := r }) = _
    simp only [dig_up, upd_in]
  · unfold trl2
    simp only [canD_eq]
    show (dig _ (i / 64)).up (fun y k => (dig _ (i / 8 % 8)).up (fun y k => (dig _ (i % 8)).up (fun _ k => k (some x)) y k) y k) t.s2 (fun r => k { t with s2 := r }) = _
    simp only [dig_up, upd_in]
  · unfold trl3
    simp only [canD_eq]
    show (dig _ (i / 512)).up (fun y k => (dig _ (i / 64 % 8)).up (fun y k => (dig _ (i / 8 % 8)).up (fun y k => (dig _ (i % 8)).up (fun _ k => k (some x)) y k) y k) y k) t.s3 (fun r => k { t with s3 := r }) = _
    simp only [dig_up, upd_in]
  · unfold trl4
    simp only [canD_eq]
    show (dig _ (i / 4096)).up (fun y k => (dig _ (i / 512 % 8)).up (fun y k => (dig _ (i / 64 % 8)).up (fun y k => (dig _ (i / 8 % 8)).up (fun y k => (dig _ (i % 8)).up (fun _ k => k (some x)) y k) y k) y k) y k) t.s4 (fun r => k { t with s4 := r }) = _
    simp only [dig_up, upd_in]
  · show k (t.set i x) = _
    simp only [Tr.set, Tr.upd, e]
theorem takeK_eq : ∀ (n o : Nat) (t : Tr AV) (k : List AV → Res), takeK n o t k = optK (t.take o n) k
  | 0, o, t, k => rfl
  | n + 1, o, t, k => by
    show (getK t o fun v => finN (Nat.succ o) fun o => takeK n o t fun l => k (v :: l)) = _
    rw [getK_eq]
    simp only [finN_eq, Tr.take]
    cases t.get o with
    | none => rfl
    | some v =>
      show takeK n (o + 1) t _ = _
      rw [takeK_eq n (o + 1)]
      cases t.take (o + 1) n <;> rfl
theorem putK_eq : ∀ (l : List AV) (o : Nat) (t : Tr AV) (k : Tr AV → Res), putK l o t k = k (t.put o l)
  | [], o, t, k => rfl
  | x :: l, o, t, k => by
    show (setK t o x fun t => finN (Nat.succ o) fun o => putK l o t k) = _
    rw [setK_eq]
    simp only [finN_eq]
    rw [putK_eq l]
    rfl

/-! ### Memory -/
theorem loadK1_ok {E : Env} {t : TypeId} {p : AV} {H : AH} {k : KA} {r : Ext × AV × AH} {i : TI} (hi : E.ty.get t = some i) (ha : i.kind.isAgg = false) (h : loadK1 E t p H k = some r) : ∃ v, loadT E t p H = some v ∧ k v = some r := by
  unfold loadK1 at h
  rcases ifPtr_ok h with ⟨b, o, rfl, h⟩ | h
  · obtain ⟨n, bs⟩ := H
    change (getK bs b fun q => @Blk.rec (fun _ => Res) (fun len cs => iteK (Nat.blt o len) (getK cs o k) none) q) = some r at h
    rw [getK_eq] at h
    obtain ⟨⟨len, cs⟩, hb, h⟩ := optK_ok h
    obtain ⟨hl, h⟩ := iteK_one h
    rw [getK_eq] at h
    obtain ⟨v, hv, h⟩ := optK_ok h
    refine ⟨v, ?_, h⟩
    unfold Nat.blt at hl
    rw [Nat.ble_eq] at hl
    simp only [loadT, hi, ha, loadA, hb, Tr.take, hv, Bool.false_eq_true, if_false]
    rw [if_pos hl]
  · exact optK_ok h
theorem loadKn_ok {E : Env} {t : TypeId} {p : AV} {H : AH} {k : KA} {r : Ext × AV × AH} {i : TI} (hi : E.ty.get t = some i) (ha : i.kind.isAgg = true) (h : loadKn E t i.size p H k = some r) : ∃ v, loadT E t p H = some v ∧ k v = some r := by
  unfold loadKn at h
  rcases ifPtr_ok h with ⟨b, o, rfl, h⟩ | h
  · obtain ⟨n, bs⟩ := H
    change (getK bs b fun q => @Blk.rec (fun _ => Res) (fun len cs => iteK (Nat.ble (o + i.size) len) (takeK i.size o cs fun l => k (.agg l)) none) q) = some r at h
    rw [getK_eq] at h
    obtain ⟨⟨len, cs⟩, hb, h⟩ := optK_ok h
    obtain ⟨hl, h⟩ := iteK_one h
    rw [takeK_eq] at h
    obtain ⟨l, hv, h⟩ := optK_ok h
    refine ⟨.agg l, ?_, h⟩
    rw [Nat.ble_eq] at hl
    simp only [loadT, hi, ha, loadA, hb, if_true]
    rw [if_pos hl, hv]
    rfl
  · exact optK_ok h
theorem isAggA_cells {v : AV} (h : isAggA v = false) : v.cells = [v] ∧ okc v = true := by
  cases v <;> first | exact ⟨rfl, rfl⟩ | cases h
theorem storeK_ok {size : Nat} {p v : AV} {H : AH} {k : AH → Res} {r : Ext × AV × AH} (h : storeK size p v H k = some r) : ∃ b o, p = .ptr b o ∧ v.cells.length = size ∧ ∃ H', storeA H b o v.cells = some H' ∧ k H' = some r := by
  unfold storeK at h
  rcases ifPtr_ok h with ⟨b, o, rfl, h⟩ | h
  · refine ⟨b, o, rfl, ?_⟩
    rcases iteK_ok h with ⟨ha, h⟩ | ⟨ha, h⟩
    · obtain ⟨hl, h⟩ := iteK_one h
      exact ⟨Nat.eq_of_beq_eq_true hl, optK_ok h⟩
    · obtain ⟨hl, h⟩ := iteK_one h
      obtain ⟨e1, e2⟩ := isAggA_cells ha
      rw [e1]
      refine ⟨(Nat.eq_of_beq_eq_true hl).symm, ?_⟩
      obtain ⟨n, bs⟩ := H
      change (getK bs b fun q => @Blk.rec (fun _ => Res) (fun len cs => iteK (Nat.blt o len) (setK cs o v fun cs => setK bs b ⟨len, cs⟩ fun bs => k ⟨n, bs⟩) none) q) = some r at h
      rw [getK_eq] at h
      obtain ⟨⟨len, cs⟩, hb, h⟩ := optK_ok h
      obtain ⟨hl, h⟩ := iteK_one h
      rw [setK_eq, setK_eq] at h
      refine ⟨_, ?_, h⟩
      unfold Nat.blt at hl
      simp only [storeA, hb, List.length_cons, List.length_nil, List.all_cons, List.all_nil, e2, Bool.and_self, Bool.and_true, decide_eq_true_eq]
      rw [if_pos (by rw [Nat.ble_eq] at hl; omega)]
      rfl
  · cases h
theorem newK_eq (len : Nat) (cells : Tr AV) (H : AH) (k : Nat → AH → Res) : newK len cells H k = k H.n ⟨H.n + 1, H.bs.set H.n ⟨len, cells⟩⟩ := by
  obtain ⟨n, bs⟩ := H
  show (setK bs n ⟨len, cells⟩ fun bs => finN (Nat.succ n) fun m => k n ⟨m, bs⟩) = _
  rw [setK_eq, finN_eq]
theorem newL_ok {l : List AV} {H : AH} {k : Nat → AH → Res} {r : Ext × AV × AH} (h : newL l H k = some r) : ∃ H', H.new l = some H' ∧ k H.n H' = some r := by
  unfold newL at h
  obtain ⟨ha, h⟩ := iteK_one h
  rw [finN_eq, putK_eq, newK_eq] at h
  exact ⟨_, by rw [AH.new, if_pos ha], h⟩
end Go.Proofs.YtfcfliclmjikkaaGreatDoor.Ex
