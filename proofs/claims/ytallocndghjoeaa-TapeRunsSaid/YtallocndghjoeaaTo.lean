/- What a side keeps behind a fall: the plain side; a list of texts that comes in. -/
import Derived.Test.YtallocndghjoeaaTn
import Derived.Deep.Strs
namespace Go.Proofs.Ytallocndghjoeaa
open Go.RowKit Go.Proofs.YtallocndghjoeaaW.PrintWords

theorem strs_open {H : Type} {enc : TypeId × Value → H} {w : World} {v : Value} {d : DataW H} {p : List MemPlace} (hs : ∃ a n c, v = .slice a n c) (h : DataW.Trod enc Try.prog w 0 (fun _ => true) true 38 v d p) : ∃ l, StrsAt w v l := by
  obtain ⟨fuel, hf⟩ := h
  obtain ⟨A, n, c, rfl⟩ := hs
  rcases Deep.open_strs Try.underlying38 Try.underlying9 (by kernel_rfl) hf with ⟨hcs, _⟩ | ⟨a, len, cap, m, Sx, hcs, _, hl, _, hm, _, hx⟩
  · simp [Value.cells] at hcs
    obtain ⟨rfl, rfl, rfl⟩ := hcs
    exact ⟨[], .inl ⟨rfl, none, 0, rfl⟩⟩
  · simp [Value.cells] at hcs
    obtain ⟨rfl, rfl, rfl⟩ := hcs
    rcases Nat.eq_zero_or_pos n with h0 | h0
    · subst h0; exact ⟨[], .inl ⟨rfl, some a, c, rfl⟩⟩
    · have hml : n ≤ m := by rw [hm]; simp; exact hl
      have h1 := (hx 0 (by omega)).1
      rw [Addr.add_zero'] at h1
      obtain ⟨b, off, spot⟩ := a
      have hs : spot = none := World.cell?_spot h1
      subst hs
      refine ⟨(List.range n).map Sx, .inr ⟨b, off, c, by simp, World.block_lt_of_cell? w _ h1, fun k hk => ?_⟩⟩
      have hk' : k < n := by simpa using hk
      have h2 := (hx k (by omega)).1
      have h3 : (⟨b, off, none⟩ : Addr).add k = ⟨b, off + k, none⟩ := by unfold Addr.add; split <;> simp_all
      rw [h3] at h2
      simpa using h2

def ad (p : ByteArray) : Chg := ⟨0, false, p⟩
def kst (first : ByteArray) (l : List ByteArray) (i : Nat) : TapeSt := ⟨first, ⟨#[]⟩, (l.take i).map ad, 1048576, 0, 0, 0, 2 + i, false⟩
def wst (first : ByteArray) (l : List ByteArray) : TapeSt := ⟨first, ⟨#[]⟩, l.map ad ++ [⟨1, true, ⟨#[]⟩⟩], 1048576, 0, 0, 0, 2 + l.length + 1, false⟩

theorem app_empty (s : ByteArray) : s ++ ({ data := #[] } : ByteArray) = s := by
  have : ({ data := #[] } : ByteArray) = ByteArray.empty := rfl
  rw [this, ByteArray.append_empty]

theorem nowF_ads (l : List ByteArray) : ∀ s t : ByteArray, nowF (s, t) (l.map ad) = (l.foldl (· ++ ·) s, t) := by
  induction l with
  | nil => intro s t; rfl
  | cons x l ih =>
    intro s t
    have e : nowF (s, t) ((x :: l).map ad) = nowF (s ++ x, t) (l.map ad) := rfl
    rw [e, ih]; rfl

theorem mores_ads (l : List ByteArray) : mores (l.map ad) = sizes l := by
  induction l with
  | nil => rfl
  | cons x l ih =>
    have e : mores ((x :: l).map ad) = x.size + mores (l.map ad) := rfl
    have e2 : sizes (x :: l) = x.size + sizes l := rfl
    rw [e, e2, ih]

theorem sizes_le (l : List ByteArray) (m : Nat) (h : ∀ s ∈ l, s.size ≤ m) : sizes l ≤ m * l.length := by
  induction l with
  | nil => simp [sizes]
  | cons x l ih =>
    have e2 : sizes (x :: l) = x.size + sizes l := rfl
    have h1 := h x (by simp)
    have h2 := ih (fun s hs => h s (by simp [hs]))
    rw [e2, List.length_cons, Nat.mul_succ]; omega

theorem k_add0 (first : ByteArray) (h : first.size ≤ 100) : addF (newSt 1048576 0 0 0) 0 [first] = (⟨⟨#[]⟩, ⟨#[]⟩, [ad first], 1048576, 0, 0, 0, 1, false⟩, 0) := by
  have hs : ¬ (newSt 1048576 0 0 0).room < addTot (newSt 1048576 0 0 0) 0 first := by
    have e : addTot (newSt 1048576 0 0 0) 0 first = first.size := by
      unfold addTot
      rw [show (newSt 1048576 0 0 0).now = (⟨#[]⟩, ⟨#[]⟩) from rfl]
      simp only [withF, empty_app, if_true, Bool.false_eq_true, if_false]
      rw [show (({ data := #[] } : ByteArray)).size = 0 from rfl]; omega
    rw [e, show (newSt 1048576 0 0 0).room = 1048576 from rfl]; omega
  have hg : gateF (newSt 1048576 0 0 0).down 0 = 0 := rfl
  unfold addF
  rw [if_pos hg, cat_one, if_neg hs]
  rfl

theorem k_seal (first : ByteArray) (l : List ByteArray) : sealF ⟨⟨#[]⟩, ⟨#[]⟩, [ad first], 1048576, 0, 0, 0, 1, false⟩ = (kst first l 0, 0) := by
  unfold sealF
  rw [if_neg Bool.false_ne_true, if_neg (by show ¬ (0 : Int) = 1 + 1; decide)]
  have e : (TapeSt.mk ⟨#[]⟩ ⟨#[]⟩ [ad first] 1048576 0 0 0 1 false).now = (first, ⟨#[]⟩) := by
    show nowF (⟨#[]⟩, ⟨#[]⟩) ([first].map ad) = _
    rw [nowF_ads]
    simp only [List.foldl_cons, List.foldl_nil, empty_app]
  rw [e]
  rfl

theorem kst_size (l : List ByteArray) (i : Nat) (hl : l.length ≤ 20) (hp : ∀ j (h : j < l.length), j < i → l[j].size ≤ 100) : sizes (l.take i) ≤ 2000 := by
  have h1 := sizes_le (l.take i) 100 (by
    intro s hs
    obtain ⟨j, hj, rfl⟩ := List.mem_iff_getElem.1 hs
    have hj' : j < i ∧ j < l.length := by rw [List.length_take] at hj; omega
    rw [List.getElem_take]
    exact hp j hj'.2 hj'.1)
  have h2 : (l.take i).length ≤ 20 := by rw [List.length_take]; omega
  have h3 : 100 * (l.take i).length ≤ 100 * 20 := Nat.mul_le_mul_left _ h2
  omega

theorem kst_ok (first : ByteArray) (l : List ByteArray) (i : Nat) (hf : first.size ≤ 100) (hl : l.length ≤ 20) (hi : i ≤ 20) (hp : ∀ j (h : j < l.length), j < i → l[j].size ≤ 100) : (kst first l i).Ok := by
  have h1 := kst_size l i hl hp
  refine ⟨?_, ?_, ?_, by show (0 : Int) ≤ 2 + i; omega, by show (2 : Int) + i ≤ _; omega⟩
  · intro c hc
    obtain ⟨p, _, rfl⟩ := List.mem_map.1 hc
    exact ⟨Int.le_refl 0, by show (0 : Int) < 2; decide⟩
  · show first.size + (⟨#[]⟩ : ByteArray).size + mores ((l.take i).map ad) ≤ _
    rw [mores_ads, show (⟨#[]⟩ : ByteArray).size = 0 from rfl]; omega
  · show ((l.take i).map ad).length ≤ _
    rw [List.length_map, List.length_take]; omega

theorem foldl_size (l : List ByteArray) : ∀ s : ByteArray, (l.foldl (· ++ ·) s).size = s.size + sizes l := cat_go l

theorem k_add (first : ByteArray) (l : List ByteArray) (i : Nat) (hf : first.size ≤ 100) (hl : l.length ≤ 20) (hi : i < l.length) (hp : ∀ j (h : j < l.length), j < i + 1 → l[j].size ≤ 100) :
    addF (kst first l i) 0 [l[i]] = (kst first l (i + 1), 0) := by
  have h1 := kst_size l i hl (fun j h hj => hp j h (by omega))
  have h2 := hp i hi (by omega)
  have hs : ¬ (kst first l i).room < addTot (kst first l i) 0 l[i] := by
    have e : (kst first l i).now = ((l.take i).foldl (· ++ ·) first, ⟨#[]⟩) := nowF_ads _ _ _
    have e2 := withF_size (kst first l i).now.1 (kst first l i).now.2 0 false l[i]
    unfold addTot
    rw [e] at e2 ⊢
    simp only at e2 ⊢
    rw [foldl_size, show (⟨#[]⟩ : ByteArray).size = 0 from rfl] at e2
    show ¬ (1048576 : Int) < _
    omega
  have hc : ¬ (kst first l i).crash = (kst first l i).calls + 1 := by show ¬ (0 : Int) = 2 + i + 1; omega
  have hg : gateF (kst first l i).down 0 = 0 := rfl
  unfold addF
  rw [if_pos hg, cat_one, if_neg hs]
  have e1 : putC (kst first l i) = 0 := if_neg hc
  rw [e1]
  have e2 : putF (kst first l i) ⟨0, false, l[i]⟩ = kst first l (i + 1) := by
    unfold putF
    rw [if_neg hc, decide_eq_false hc]
    unfold kst
    rw [List.take_succ_eq_append_getElem hi, List.map_append]
    simp only [List.map_cons, List.map_nil, ad, TapeSt.mk.injEq, true_and, and_true]
    omega
  rw [e2]

theorem k_wipe (first : ByteArray) (l : List ByteArray) : wipeF (kst first l l.length) 1 = (wst first l, 0) := by
  have hc : ¬ (kst first l l.length).crash = (kst first l l.length).calls + 1 := by show ¬ (0 : Int) = 2 + l.length + 1; omega
  have hg : gateF (kst first l l.length).down 1 = 0 := rfl
  unfold wipeF
  rw [if_pos hg]
  have e1 : putC (kst first l l.length) = 0 := if_neg hc
  have e2 : putF (kst first l l.length) ⟨1, true, ⟨#[]⟩⟩ = wst first l := by
    unfold putF
    rw [if_neg hc, decide_eq_false hc]
    unfold kst wst
    rw [List.take_length]
  rw [e1, e2]

theorem wst_ok (first : ByteArray) (l : List ByteArray) (hf : first.size ≤ 100) (hl : l.length ≤ 20) (hp : ∀ j (h : j < l.length), j < l.length → l[j].size ≤ 100) : (wst first l).Ok := by
  have h1 := kst_size l l.length hl hp
  rw [List.take_length] at h1
  refine ⟨?_, ?_, ?_, by show (0 : Int) ≤ 2 + l.length + 1; omega, by show (2 : Int) + l.length + 1 ≤ _; omega⟩
  · intro c hc
    rcases List.mem_append.1 hc with hc | hc
    · obtain ⟨p, _, rfl⟩ := List.mem_map.1 hc
      exact ⟨Int.le_refl 0, by show (0 : Int) < 2; decide⟩
    · simp only [List.mem_singleton] at hc; subst hc; exact ⟨by show (0 : Int) ≤ 1; decide, by show (1 : Int) < 2; decide⟩
  · show first.size + (⟨#[]⟩ : ByteArray).size + mores (l.map ad ++ [⟨1, true, ⟨#[]⟩⟩]) ≤ _
    rw [mores_app, mores_ads, show (⟨#[]⟩ : ByteArray).size = 0 from rfl, show mores [(⟨1, true, ⟨#[]⟩⟩ : Chg)] = 0 from rfl]; omega
  · show (l.map ad ++ [(⟨1, true, ⟨#[]⟩⟩ : Chg)]).length ≤ _
    simp; omega

def wantC (first : ByteArray) (l : List ByteArray) (k : Nat) (torn : Int) : ByteArray :=
  if h : k < l.length then (l.take k).foldl (· ++ ·) first ++ l[k].extract 0 (partF torn l[k].size).toNat else l.foldl (· ++ ·) first

theorem fall_want (first : ByteArray) (l : List ByteArray) (k : Nat) (torn : Int) (hk : k ≤ l.length) : (nowF (first, ⟨#[]⟩) (tornL (l.map ad) k torn)).1 = wantC first l k torn := by
  unfold wantC tornL
  by_cases h : k < l.length
  · rw [dif_pos h, show (l.map ad).drop k = ad l[k] :: (l.map ad).drop (k + 1) by
      rw [List.drop_eq_getElem_cons (by simpa using h)]; simp]
    simp only [ad, Bool.false_eq_true, if_false]
    rw [nowF_app]
    rw [← List.map_take, nowF_ads]; rfl
  · rw [dif_neg h, show k = l.length by omega]
    rw [List.drop_of_length_le (by simp)]
    simp only
    rw [List.take_of_length_le (by simp), nowF_ads]

theorem fall_want_w (first : ByteArray) (l : List ByteArray) (k : Nat) (torn : Int) (hk : k ≤ l.length + 1) : (nowF (first, ⟨#[]⟩) (tornL (l.map ad ++ [⟨1, true, ⟨#[]⟩⟩]) k torn)).1 = wantC first l k torn := by
  unfold wantC tornL
  by_cases h : k < l.length
  · rw [dif_pos h, List.drop_append_of_le_length (by simp; omega), List.take_append_of_le_length (by simp; omega), show (l.map ad).drop k = ad l[k] :: (l.map ad).drop (k + 1) by
      rw [List.drop_eq_getElem_cons (by simpa using h)]; simp]
    simp only [ad, Bool.false_eq_true, if_false, List.cons_append]
    rw [nowF_app]
    rw [← List.map_take, nowF_ads]; rfl
  · rw [dif_neg h]
    rcases (by omega : k = l.length ∨ k = l.length + 1) with rfl | rfl
    · rw [List.drop_append_of_le_length (by simp), List.take_append_of_le_length (by simp), List.drop_of_length_le (by simp), List.take_of_length_le (by simp)]
      simp only [List.nil_append, if_true]
      rw [nowF_ads]
    · rw [List.drop_of_length_le (by simp)]
      simp only
      rw [List.take_of_length_le (by simp), nowF_app, nowF_ads]
      simp [stepF, withF]

end Go.Proofs.Ytallocndghjoeaa
