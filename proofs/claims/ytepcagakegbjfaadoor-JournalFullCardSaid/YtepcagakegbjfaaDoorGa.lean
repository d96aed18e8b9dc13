/- Lines as they stand on a side of a tape: what is framed is found again; what is torn is not. No program in sight. -/
import Derived.Lib.ItoaNum
import Derived.Lib.AtoiAll
import Derived.Lib.IndexMore
import Derived.Lib.ItoaMem
namespace Go.Proofs.YtepcagakegbjfaaDoor.Jr
open Go Go.Lib
abbrev S := List UInt8
def nl : UInt8 := 10
def sp : UInt8 := 32
def semi : UInt8 := 59

/-! ### Numerals -/
theorem dec_digit (n : Nat) : ∀ c ∈ decDigits n, 48 ≤ c.toNat ∧ c.toNat ≤ 57 := by
  induction n using Nat.strongRecOn with
  | _ n ih =>
    have one : ∀ d, d < 10 → 48 ≤ (UInt8.ofNat (48 + d)).toNat ∧ (UInt8.ofNat (48 + d)).toNat ≤ 57 := fun d hd => by
      have : (UInt8.ofNat (48 + d)).toNat = 48 + d := by simp; omega
      omega
    intro c hc
    rw [decDigits] at hc
    split at hc
    · rename_i h
      rw [List.mem_singleton] at hc
      subst hc
      exact one n h
    · rcases List.mem_append.1 hc with hc | hc
      · exact ih (n / 10) (by omega) c hc
      · rw [List.mem_singleton] at hc
        subst hc
        exact one (n % 10) (by omega)
theorem dec_ne (n : Nat) : decDigits n ≠ [] := by
  rw [decDigits]
  split <;> simp
def num (n : Nat) : S := decDigits n
theorem num_free {n : Nat} {c : UInt8} (h : c.toNat < 48 ∨ 57 < c.toNat) : c ∉ num n := fun hc => by
  have := dec_digit n c hc
  omega
theorem parse_app : ∀ (l r : S) (acc : Nat) (u : Nat), parseUint10 acc l = .ok u → parseUint10 acc (l ++ r) = parseUint10 u r
  | [], r, acc, u, h => by
    simp only [parseUint10, NumEnd.ok.injEq] at h
    subst h
    rfl
  | c :: l, r, acc, u, h => by
    simp only [parseUint10, List.cons_append] at h ⊢
    split at h
    · rename_i hc
      rw [if_pos hc]
      split at h
      · cases h
      · rename_i h1
        rw [if_neg h1]
        split at h
        · cases h
        · rename_i h2
          rw [if_neg h2]
          exact parse_app l r _ u h
    · cases h
theorem parse_num (n : Nat) (hn : n < 9223372036854775808) : parseUint10 0 (num n) = .ok n := by
  induction n using Nat.strongRecOn with
  | _ n ih =>
    have one : ∀ d acc, d < 10 → acc < 922337203685477581 → acc * 10 + d < 9223372036854775808 → parseUint10 acc [UInt8.ofNat (48 + d)] = .ok (acc * 10 + d) := fun d acc hd ha hb => by
      have e : (UInt8.ofNat (48 + d)).toNat = 48 + d := by simp; omega
      simp only [parseUint10, e]
      rw [if_pos (by omega), if_neg (by omega), if_neg (by omega)]
      congr 1
      omega
    unfold num
    rw [decDigits]
    split
    · rename_i h
      have := one n 0 h (by omega) (by omega)
      simpa using this
    · rename_i h
      have h1 := ih (n / 10) (by omega) (by omega)
      show parseUint10 0 (num (n / 10) ++ [UInt8.ofNat (48 + n % 10)]) = _
      rw [parse_app _ _ _ _ h1, one (n % 10) (n / 10) (by omega) (by omega) (by omega)]
      congr 1
      omega
/-- What strconv.Atoi gives, an error or not. -/
def atoiV (l : S) : Int := match atoiAll l with
  | .ok v => v
  | .range => atoiSat l
  | _ => 0
theorem atoi_num (n : Nat) (hn : n < 9223372036854775808) : atoiV (num n) = n := by
  obtain ⟨c, r, hcr⟩ : ∃ c r, num n = c :: r := by
    cases h : num n with
    | nil => exact absurd h (dec_ne n)
    | cons c r => exact ⟨c, r, rfl⟩
  have hd := dec_digit n c (by show c ∈ num n; rw [hcr]; exact List.mem_cons_self ..)
  have hp := parse_num n hn
  unfold atoiV
  rw [hcr] at hp ⊢
  have h43 : c.toNat ≠ 43 := by omega
  have h45 : c.toNat ≠ 45 := by omega
  simp only [atoiAll, h43, h45, or_self, if_false, parseMag, List.cons_ne_nil, hp, false_and, not_false_eq_true, true_and]
  rw [if_neg (by omega)]
theorem num_inj {m n : Nat} (hm : m < 9223372036854775808) (hn : n < 9223372036854775808) (h : num m = num n) : m = n := by
  have h1 := atoi_num m hm
  have h2 := atoi_num n hn
  rw [h] at h1
  omega

/-! ### Cuts -/
def cut1 (c : UInt8) : S → S × S × Bool
  | [] => ([], [], false)
  | x :: r => if x = c then ([], r, true) else match cut1 c r with
    | (a, b, f) => (x :: a, b, f)
theorem cut1_hit (c : UInt8) (y : S) : ∀ (x : S), c ∉ x → cut1 c (x ++ c :: y) = (x, y, true)
  | [], h => by simp [cut1]
  | d :: x, h => by
    have h1 : d ≠ c := fun e => h (by rw [e]; exact List.mem_cons_self ..)
    have h2 := cut1_hit c y x (fun e => h (List.mem_cons_of_mem _ e))
    simp only [List.cons_append, cut1, h1, if_false, h2]
theorem cut1_miss (c : UInt8) : ∀ (x : S), c ∉ x → cut1 c x = (x, [], false)
  | [], h => rfl
  | d :: x, h => by
    have h1 : d ≠ c := fun e => h (by rw [e]; exact List.mem_cons_self ..)
    have h2 := cut1_miss c x (fun e => h (List.mem_cons_of_mem _ e))
    simp only [cut1, h1, if_false, h2]
theorem ib_hit (c : UInt8) (y : S) : ∀ x : S, c ∉ x → indexByte (x ++ c :: y) c = x.length
  | [], h => by simp [indexByte]
  | d :: x, h => by
    have h1 : d ≠ c := fun e => h (by rw [e]; exact List.mem_cons_self ..)
    have h2 := ib_hit c y x (fun e => h (List.mem_cons_of_mem _ e))
    have h3 : ((x.length : Int) == -1) = false := by rw [beq_eq_false_iff_ne]; omega
    simp [indexByte, h1, h2, h3]
theorem ib_miss (c : UInt8) : ∀ x : S, c ∉ x → indexByte x c = -1
  | [], h => rfl
  | d :: x, h => by
    have h1 : d ≠ c := fun e => h (by rw [e]; exact List.mem_cons_self ..)
    have h2 := ib_miss c x (fun e => h (List.mem_cons_of_mem _ e))
    simp [indexByte, h1, h2]
theorem cut1_lib (c : UInt8) : ∀ (s : S), Lib.cut s [c] = cut1 c s := by
  intro s
  by_cases h : c ∈ s
  · obtain ⟨x, y, rfl, hx⟩ : ∃ x y, s = x ++ c :: y ∧ c ∉ x := by
      induction s with
      | nil => cases h
      | cons d s ih =>
        by_cases e : d = c
        · subst e; exact ⟨[], s, rfl, by simp⟩
        · have : c ∈ s := by
            rcases List.mem_cons.1 h with q | q
            · exact absurd q.symm e
            · exact q
          obtain ⟨x, y, h1, h2⟩ := ih this
          exact ⟨d :: x, y, by rw [h1]; rfl, fun q => by
            rcases List.mem_cons.1 q with q | q
            · exact e q.symm
            · exact h2 q⟩
    rw [cut1_hit c y x hx]
    have : index (x ++ c :: y) [c] = x.length := by rw [index_one]; exact ib_hit c y x hx
    simp [Lib.cut, this]
  · rw [cut1_miss c s h]
    have : index s [c] = -1 := by rw [index_one]; exact ib_miss c s h
    simp [Lib.cut, this]

/-! ### Frames -/
def chunk (s : S) : S := num s.length ++ sp :: s
def frame (s : S) : S := nl :: chunk s
def splitL (c : UInt8) : S → List S
  | [] => [[]]
  | x :: r => if x = c then [] :: splitL c r else match splitL c r with
    | h :: t => (x :: h) :: t
    | [] => [[x]]
theorem splitL_ne (c : UInt8) (s : S) : splitL c s ≠ [] := by
  cases s with
  | nil => simp [splitL]
  | cons x r =>
    simp only [splitL]
    split
    · simp
    · split <;> simp
theorem splitL_miss (c : UInt8) : ∀ (x : S), c ∉ x → splitL c x = [x]
  | [], h => rfl
  | d :: x, h => by
    have h1 : d ≠ c := fun e => h (by rw [e]; exact List.mem_cons_self ..)
    have h2 := splitL_miss c x (fun e => h (List.mem_cons_of_mem _ e))
    simp only [splitL, h1, if_false, h2]
theorem splitL_hit (c : UInt8) (y : S) : ∀ (x : S), c ∉ x → splitL c (x ++ c :: y) = x :: splitL c y
  | [], h => by simp [splitL]
  | d :: x, h => by
    have h1 : d ≠ c := fun e => h (by rw [e]; exact List.mem_cons_self ..)
    have h2 := splitL_hit c y x (fun e => h (List.mem_cons_of_mem _ e))
    simp only [List.cons_append, splitL, h1, if_false, h2]
/-- A chunk's line, if it stands whole. -/
def whole (x : S) : Option S := match cut1 sp x with
  | (_, t, f) => if f && frame t == nl :: x then some t else none
def unframed (s : S) : List S := (splitL nl s).filterMap whole
/-- Chunks, each behind a line's end. -/
def bodyOf : List S → S
  | [] => []
  | x :: l => nl :: (x ++ bodyOf l)
theorem split_body : ∀ (xs : List S), (∀ x ∈ xs, nl ∉ x) → splitL nl (bodyOf xs) = [] :: xs
  | [], h => rfl
  | x :: l, h => by
    have ih := split_body l (fun y hy => h y (List.mem_cons_of_mem _ hy))
    have hx := h x (List.mem_cons_self ..)
    have : splitL nl (x ++ bodyOf l) = x :: l := by
      cases l with
      | nil => rw [show bodyOf [] = [] from rfl, List.append_nil]; exact splitL_miss nl x hx
      | cons y l =>
        rw [show bodyOf (y :: l) = nl :: (y ++ bodyOf l) from rfl, splitL_hit nl _ x hx]
        rw [show bodyOf (y :: l) = nl :: (y ++ bodyOf l) from rfl] at ih
        simp only [splitL, if_true] at ih
        have := List.cons.inj ih
        rw [this.2]
    show splitL nl (nl :: (x ++ bodyOf l)) = _
    simp only [splitL, if_true, this]
theorem whole_nil : whole [] = none := rfl
theorem unframed_body (xs : List S) (h : ∀ x ∈ xs, nl ∉ x) : unframed (bodyOf xs) = xs.filterMap whole := by
  unfold unframed
  rw [split_body xs h, List.filterMap_cons, whole_nil]
theorem body_app : ∀ (xs ys : List S), bodyOf (xs ++ ys) = bodyOf xs ++ bodyOf ys
  | [], ys => rfl
  | x :: l, ys => by simp only [List.cons_append, bodyOf, body_app l ys, List.append_assoc]
def frames (l : List S) : S := bodyOf (l.map chunk)
/-- May a text be a line? -/
def okLine (s : S) : Bool := !s.isEmpty && decide (s.length ≤ 1000) && s.all fun c => decide (32 ≤ c.toNat)
theorem okLine_nl {s : S} (h : okLine s = true) : nl ∉ s := fun hc => by
  unfold okLine at h
  simp only [Bool.and_eq_true] at h
  have := List.all_eq_true.1 h.2 nl hc
  simp [nl] at this
theorem okLine_len {s : S} (h : okLine s = true) : s.length ≤ 1000 ∧ s ≠ [] := by
  unfold okLine at h
  simp only [Bool.and_eq_true, decide_eq_true_eq, Bool.not_eq_true', List.isEmpty_eq_false_iff] at h
  exact ⟨h.1.2, h.1.1⟩
theorem sp_num (n : Nat) : sp ∉ num n := num_free (by simp [sp])
theorem nl_num (n : Nat) : nl ∉ num n := num_free (by simp [nl])
theorem semi_num (n : Nat) : semi ∉ num n := num_free (by simp [semi])
theorem nl_chunk {s : S} (h : nl ∉ s) : nl ∉ chunk s := fun hc => by
  unfold chunk at hc
  rcases List.mem_append.1 hc with hc | hc
  · exact nl_num _ hc
  · rcases List.mem_cons.1 hc with hc | hc
    · exact absurd hc (by decide)
    · exact h hc
theorem whole_chunk (s : S) : whole (chunk s) = some s := by
  unfold whole
  rw [show chunk s = num s.length ++ sp :: s from rfl, cut1_hit sp s _ (sp_num _)]
  simp [frame, chunk]
theorem take_free {c : UInt8} {l : S} (h : c ∉ l) (k : Nat) : c ∉ l.take k := fun q => h (List.mem_of_mem_take q)
theorem whole_torn (s : S) (hs : s.length < 9223372036854775808) (k : Nat) (hk : k < (chunk s).length) : whole ((chunk s).take k) = none := by
  unfold chunk at hk ⊢
  rw [List.length_append, List.length_cons] at hk
  by_cases h1 : k ≤ (num s.length).length
  · rw [List.take_append_of_le_length h1]
    unfold whole
    rw [cut1_miss sp _ (take_free (sp_num _) k)]
    rfl
  · obtain ⟨j, rfl⟩ : ∃ j, k = (num s.length).length + (j + 1) := ⟨k - (num s.length).length - 1, by omega⟩
    rw [List.take_length_add_append, List.take_succ_cons]
    unfold whole
    rw [cut1_hit sp _ _ (sp_num _)]
    simp only [Bool.true_and]
    split
    · rename_i he
      have he := beq_iff_eq.1 he
      unfold frame chunk at he
      have he := (List.cons.inj he).2
      have := congrArg (cut1 sp) he
      rw [cut1_hit sp _ _ (sp_num _), cut1_hit sp _ _ (sp_num _)] at this
      have h2 := (Prod.mk.inj this).1
      have hl : (s.take j).length = j := by rw [List.length_take]; omega
      rw [hl] at h2
      have := num_inj (by omega) hs h2
      omega
    · rfl
theorem frames_nl {l : List S} (h : ∀ s ∈ l, nl ∉ s) : ∀ x ∈ l.map chunk, nl ∉ x := fun x hx => by
  obtain ⟨s, hs, rfl⟩ := List.mem_map.1 hx
  exact nl_chunk (h s hs)
theorem whole_chunks : ∀ l : List S, (l.map chunk).filterMap whole = l
  | [] => rfl
  | s :: l => by rw [List.map_cons, List.filterMap_cons, whole_chunk, whole_chunks l]

/-! ### Sides -/
def head (turn size : Nat) : S := num turn ++ sp :: (num size ++ [semi])
/-- What a side has. -/
def readF (s : S) : Int × List S :=
  let h := cut1 semi s
  let ab := cut1 sp h.1
  let turn := atoiV ab.1
  let size := atoiV ab.2.1
  if turn < 1 ∨ ¬ (itoa turn ++ sp :: (itoa size ++ [semi])).isPrefixOf s ∨ (h.2.1.length : Int) < size then (0, []) else (turn, unframed h.2.1)
theorem itoa_num (n : Nat) : itoa (n : Int) = num n := itoa_nonneg n
theorem head_semi (t n : Nat) : semi ∉ num t ++ sp :: num n := fun hc => by
  rcases List.mem_append.1 hc with hc | hc
  · exact semi_num _ hc
  · rcases List.mem_cons.1 hc with hc | hc
    · exact absurd hc (by decide)
    · exact semi_num _ hc
theorem head_eq (t n : Nat) : head t n = (num t ++ sp :: num n) ++ [semi] := by simp [head]
theorem read_parts (t n : Nat) (ht : t < 9223372036854775808) (hn : n < 9223372036854775808) (body : S) :
    readF (head t n ++ body) = if t < 1 ∨ body.length < n then (0, []) else ((t : Int), unframed body) := by
  unfold readF
  have e1 : head t n ++ body = (num t ++ sp :: num n) ++ semi :: body := by simp [head]
  rw [e1, cut1_hit semi body _ (head_semi t n)]
  simp only
  rw [cut1_hit sp _ _ (sp_num t)]
  simp only
  rw [atoi_num t ht, atoi_num n hn, itoa_num, itoa_num]
  have hp : (num t ++ sp :: (num n ++ [semi])).isPrefixOf ((num t ++ sp :: num n) ++ semi :: body) = true := by
    rw [List.isPrefixOf_iff_prefix]
    exact ⟨body, by simp⟩
  rw [hp]
  by_cases h : t < 1 ∨ body.length < n
  · rw [if_pos h, if_pos (by omega)]
  · rw [if_neg h, if_neg (by simp; omega)]
theorem read_torn (t n : Nat) (ht : t < 9223372036854775808) (hn : n < 9223372036854775808) (body : S) (hb : body.length = n) (k : Nat) (hk : k < (head t n).length + n) : readF ((head t n ++ body).take k) = (0, []) := by
  by_cases h : (head t n).length ≤ k
  · obtain ⟨j, rfl⟩ : ∃ j, k = (head t n).length + j := ⟨k - (head t n).length, by omega⟩
    rw [List.take_length_add_append, read_parts t n ht hn]
    rw [if_pos (.inr (by rw [List.length_take]; omega))]
  · rw [List.take_append_of_le_length (by omega), head_eq]
    have hl : (head t n).length = (num t ++ sp :: num n).length + 1 := by rw [head_eq, List.length_append]; rfl
    rw [List.take_append_of_le_length (by omega)]
    have hfree := take_free (head_semi t n) k
    generalize (num t ++ sp :: num n).take k = x at hfree
    unfold readF
    rw [cut1_miss semi x hfree]
    simp only
    rw [if_pos]
    by_cases h1 : atoiV (cut1 sp x).1 < 1
    · exact .inl h1
    · refine .inr (.inl fun hp => hfree ?_)
      rw [List.isPrefixOf_iff_prefix] at hp
      obtain ⟨r, hr⟩ := hp
      rw [← hr]
      simp
theorem read_nil : readF [] = (0, []) := by
  unfold readF
  rw [if_pos]
  exact .inl (by decide)
end Go.Proofs.YtepcagakegbjfaaDoor.Jr
/- A tape of two sides, as plain data: what its functions compute. No program in sight. -/
namespace Go.Proofs.YtepcagakegbjfaaDoor.Jr
open Go Go.Lib
def partF (n there : Int) : Int := if n < 0 then 0 else n % (there + 1)
def gateF (down : Bool) (n : Int) : Int := if down then 16 else if n < 0 ∨ 2 ≤ n then 1 else 0
def withF (s0 s1 : ByteArray) (side : Int) (wipe : Bool) (more : ByteArray) : ByteArray × ByteArray :=
  if side = 0 then ((if wipe then more else s0 ++ more), s1) else (s0, if wipe then more else s1 ++ more)
structure Chg where
  side : Int
  wipe : Bool
  more : ByteArray
def cellsOf (l : List Chg) : List Value := l.flatMap fun c => [.int .i64 c.side, .bool c.wipe, .string c.more]
def stepF (s : ByteArray × ByteArray) (c : Chg) : ByteArray × ByteArray := withF s.1 s.2 c.side c.wipe c.more
def nowF (s : ByteArray × ByteArray) (l : List Chg) : ByteArray × ByteArray := l.foldl stepF s
def mores (l : List Chg) : Nat := l.foldr (fun c n => c.more.size + n) 0
structure TapeSt where
  s0 : ByteArray
  s1 : ByteArray
  loose : List Chg
  room : Int
  crash : Int
  keep : Int
  torn : Int
  calls : Int
  down : Bool
def TapeSt.now (st : TapeSt) : ByteArray × ByteArray := nowF (st.s0, st.s1) st.loose
def newSt (room crash keep torn : Int) : TapeSt := ⟨⟨#[]⟩, ⟨#[]⟩, [], room, crash, keep, torn, 0, false⟩
def putF (st : TapeSt) (c : Chg) : TapeSt :=
  { st with calls := st.calls + 1, down := decide (st.crash = st.calls + 1), loose := if st.crash = st.calls + 1 then st.loose else st.loose ++ [c] }
def putC (st : TapeSt) : Int := if st.crash = st.calls + 1 then 16 else 0
def sideF (st : TapeSt) (n : Int) : ByteArray × Int :=
  if st.down then (⟨#[]⟩, 16) else if n < 0 ∨ 2 ≤ n then (⟨#[]⟩, 1) else (if n = 0 then st.now.1 else st.now.2, 0)
def wipeF (st : TapeSt) (n : Int) : TapeSt × Int :=
  if gateF st.down n = 0 then (putF st ⟨n, true, ⟨#[]⟩⟩, putC st) else (st, gateF st.down n)
def sealF (st : TapeSt) : TapeSt × Int :=
  if st.down then (st, 16) else if st.crash = st.calls + 1 then ({ st with calls := st.calls + 1, down := true }, 16)
  else ({ st with calls := st.calls + 1, down := false, s0 := st.now.1, s1 := st.now.2, loose := [] }, 0)
def catF (l : List ByteArray) : ByteArray := l.foldl (· ++ ·) ⟨#[]⟩
def addTot (st : TapeSt) (n : Int) (m : ByteArray) : Int := ((withF st.now.1 st.now.2 n false m).1.size : Int) + (withF st.now.1 st.now.2 n false m).2.size
def addF (st : TapeSt) (n : Int) (l : List ByteArray) : TapeSt × Int :=
  if gateF st.down n = 0 then
    if st.room < addTot st n (catF l) then (st, 15) else (putF st ⟨n, false, catF l⟩, putC st)
  else (st, gateF st.down n)
def cutMore (c : Chg) (n : Nat) : Chg := { c with more := c.more.extract 0 n }
def tornL (l : List Chg) (kept : Nat) (torn : Int) : List Chg :=
  match l.drop kept with
  | [] => l.take kept
  | c :: _ => if c.wipe then l.take kept else l.take kept ++ [cutMore c (partF torn c.more.size).toNat]
def fallF (st : TapeSt) (room crash keep torn : Int) : TapeSt :=
  { s0 := (nowF (st.s0, st.s1) (tornL st.loose (partF keep st.loose.length).toNat torn)).1
    s1 := (nowF (st.s0, st.s1) (tornL st.loose (partF keep st.loose.length).toNat torn)).2
    loose := [], room := room, crash := crash, keep := keep, torn := torn, calls := 0, down := false }

/-! ### Texts and their bytes -/
def bs (s : S) : ByteArray := ⟨s.toArray⟩
def lb (b : ByteArray) : S := b.data.toList
theorem lb_bs (s : S) : lb (bs s) = s := by simp [lb, bs]
theorem bs_lb (b : ByteArray) : bs (lb b) = b := by cases b; simp [lb, bs]
theorem bs_size (s : S) : (bs s).size = s.length := rfl
theorem lb_length (b : ByteArray) : (lb b).length = b.size := rfl
theorem bs_app (s t : S) : bs (s ++ t) = bs s ++ bs t := by
  apply ByteArray.ext
  simp [bs]
theorem lb_app (a b : ByteArray) : lb (a ++ b) = lb a ++ lb b := by simp [lb]
theorem lb_empty : lb ⟨#[]⟩ = [] := rfl
theorem lb_take (b : ByteArray) (n : Nat) : lb (b.extract 0 n) = (lb b).take n := by
  simp [lb, ByteArray.data_extract, Array.toList_extract, List.extract]

/-! ### A journal -/
structure Jn where
  side : Int
  turn : Int
  lines : List S
  dead : Bool
def readB (b : ByteArray) : Int × List S := readF (lb b)
def pickJ (n : Int) (r : Int × List S) (j : Jn) : Jn := if j.turn < r.1 then { j with side := n, turn := r.1, lines := r.2 } else j
def openJ (st : TapeSt) : Jn := pickJ 1 (readB st.now.2) (pickJ 0 (readB st.now.1) ⟨0, 0, [], false⟩)
def toldF (j : Jn) (e : Int) : Jn := { j with dead := j.dead || (decide (e ≠ 0) && decide (e ≠ 15)) }
def headI (turn size : Int) : S := itoa turn ++ sp :: (itoa size ++ [semi])
def anewF (st : TapeSt) (j : Jn) (l : List S) : TapeSt × Jn × Int :=
  let w := wipeF st (1 - j.side)
  if w.2 ≠ 0 then (w.1, toldF j w.2, w.2) else
  let a := addF w.1 (1 - j.side) [bs (headI (j.turn + 1) (frames l).length), bs (frames l)]
  if a.2 ≠ 0 then (a.1, toldF j a.2, a.2) else
  let s := sealF a.1
  if s.2 ≠ 0 then (s.1, toldF j s.2, s.2) else (s.1, { j with side := 1 - j.side, turn := j.turn + 1, lines := l }, 0)
def gateJ (j : Jn) (l : List S) : Int := if j.dead then 16 else if l.all okLine then 0 else 1
def saveF (st : TapeSt) (j : Jn) (l : List S) : TapeSt × Jn × Int :=
  if gateJ j l ≠ 0 then (st, j, gateJ j l) else
  let a := anewF st j l
  if a.2.2 ≠ 15 ∨ a.2.1.turn = 0 then a else
  let b := anewF a.1 a.2.1 a.2.1.lines
  if b.2.2 ≠ 0 then b else anewF b.1 b.2.1 l
def behindF (st : TapeSt) (j : Jn) (s : S) : TapeSt × Jn × Int :=
  let a := addF st j.side [bs (frame s)]
  if a.2 ≠ 0 then (a.1, toldF j a.2, a.2) else
  let c := sealF a.1
  if c.2 ≠ 0 then (c.1, toldF j c.2, c.2) else (c.1, { j with lines := j.lines ++ [s] }, 0)
def noteF (st : TapeSt) (j : Jn) (s : S) : TapeSt × Jn × Int :=
  if gateJ j [s] ≠ 0 then (st, j, gateJ j [s]) else
  if j.turn = 0 then anewF st j [s] else
  let a := behindF st j s
  if a.2.2 ≠ 15 then a else
  let w := wipeF a.1 (1 - a.2.1.side)
  if w.2 ≠ 0 then (w.1, toldF a.2.1 w.2, w.2) else
  let b := behindF w.1 a.2.1 s
  if b.2.2 ≠ 15 then b else anewF b.1 b.2.1 (b.2.1.lines ++ [s])
end Go.Proofs.YtepcagakegbjfaaDoor.Jr
/- A journal on a tape: what is saved and noted is there when it is opened anew, whatever falls keep. No program in sight. -/
namespace Go.Proofs.YtepcagakegbjfaaDoor.Jr
open Go Go.Lib
set_option linter.unusedSimpArgs false

/-! ### One side of two -/
def pick (n : Int) (p : ByteArray × ByteArray) : ByteArray := if n = 0 then p.1 else p.2
def Sd (n : Int) : Prop := n = 0 ∨ n = 1
theorem Sd.flip {n : Int} (h : Sd n) : Sd (1 - n) := by
  rcases h with h | h <;> subst h
  · exact .inr rfl
  · exact .inl rfl
theorem Sd.flip2 {n : Int} : 1 - (1 - n) = n := by omega
theorem Sd.ne {n : Int} (h : Sd n) : n ≠ 1 - n := by rcases h with h | h <;> subst h <;> decide
def foldS (n : Int) (l : List Chg) (a : ByteArray) : ByteArray := l.foldl (fun a c => if c.side = n then (if c.wipe then c.more else a ++ c.more) else a) a
theorem pick_step {n : Int} (hn : Sd n) (s : ByteArray × ByteArray) (c : Chg) (hc : Sd c.side) : pick n (stepF s c) = if c.side = n then (if c.wipe then c.more else pick n s ++ c.more) else pick n s := by
  obtain ⟨sd, wp, mr⟩ := c
  unfold stepF withF pick
  simp only at hc ⊢
  rcases hn with h | h <;> subst h <;> rcases hc with q | q <;> subst q <;> rfl
theorem pick_now {n : Int} (hn : Sd n) : ∀ (l : List Chg) (s : ByteArray × ByteArray), (∀ c ∈ l, Sd c.side) → pick n (nowF s l) = foldS n l (pick n s)
  | [], s, h => rfl
  | c :: l, s, h => by
    have := pick_now hn l (stepF s c) (fun x hx => h x (List.mem_cons_of_mem _ hx))
    have e : nowF s (c :: l) = nowF (stepF s c) l := rfl
    rw [e, this, pick_step hn s c (h c (List.mem_cons_self ..))]
    rfl
theorem foldS_app (n : Int) (l m : List Chg) (a : ByteArray) : foldS n (l ++ m) a = foldS n m (foldS n l a) := List.foldl_append ..
def wipeC (n : Int) : Chg := ⟨n, true, ⟨#[]⟩⟩
def addC (n : Int) (m : ByteArray) : Chg := ⟨n, false, m⟩
def Wipes (n : Int) (l : List Chg) : Prop := ∀ c ∈ l, c = wipeC n
theorem Wipes.sd {n : Int} {l : List Chg} (h : Wipes n l) (hn : Sd n) : ∀ c ∈ l, Sd c.side := fun c hc => by rw [h c hc]; exact hn
theorem Wipes.take {n : Int} {l : List Chg} (h : Wipes n l) (k : Nat) : Wipes n (l.take k) := fun c hc => h c (List.mem_of_mem_take hc)
theorem Wipes.snoc {n : Int} {l : List Chg} (h : Wipes n l) : Wipes n (l ++ [wipeC n]) := fun c hc => by
  rcases List.mem_append.1 hc with q | q
  · exact h c q
  · exact List.mem_singleton.1 q
theorem fold_far {m n : Int} (hm : n ≠ m) : ∀ (l : List Chg) (a : ByteArray), Wipes n l → foldS m l a = a
  | [], a, h => rfl
  | c :: l, a, h => by
    have h1 := h c (List.mem_cons_self ..)
    have h2 := fold_far hm l a (fun x hx => h x (List.mem_cons_of_mem _ hx))
    show foldS m l (if c.side = m then _ else a) = a
    rw [h1, if_neg (show ¬ (wipeC n).side = m from hm), h2]
theorem fold_near {n : Int} : ∀ (l : List Chg) (a : ByteArray), Wipes n l → foldS n l a = a ∨ foldS n l a = ⟨#[]⟩
  | [], a, h => .inl rfl
  | c :: l, a, h => by
    have h1 := h c (List.mem_cons_self ..)
    have h2 := fold_near (n := n) l ⟨#[]⟩ (fun x hx => h x (List.mem_cons_of_mem _ hx))
    have e : foldS n (c :: l) a = foldS n l ⟨#[]⟩ := by
      show foldS n l (if c.side = n then (if c.wipe then c.more else a ++ c.more) else a) = _
      rw [h1]
      simp [wipeC]
    rw [e]
    rcases h2 with q | q <;> exact .inr q
/-- What is on a side, sealed. -/
def txt (st : TapeSt) (n : Int) : S := lb (pick n (st.s0, st.s1))
/-- What is on a side, with what is loose. -/
def view (st : TapeSt) (n : Int) : S := lb (pick n st.now)
theorem view_fold {st : TapeSt} {n : Int} (hn : Sd n) (h : ∀ c ∈ st.loose, Sd c.side) : view st n = lb (foldS n st.loose (pick n (st.s0, st.s1))) := by
  unfold view TapeSt.now
  rw [pick_now hn _ _ h]
theorem addTot_eq (st : TapeSt) {n : Int} (hn : Sd n) (m : ByteArray) : addTot st n m = ((view st n).length : Int) + m.size + (view st (1 - n)).length := by
  unfold addTot withF view pick
  simp only [lb_length]
  rcases hn with h | h <;> subst h
  · simp only [show (1 : Int) - 0 = 0 ↔ False by decide, if_true, if_false, Bool.false_eq_true, ByteArray.size_append]
    omega
  · simp only [show (1 : Int) - 1 = 0 ↔ True by decide, show (1 : Int) = 0 ↔ False by decide, if_true, if_false, Bool.false_eq_true, ByteArray.size_append]
    omega
theorem catF_two (a b : ByteArray) : catF [a, b] = a ++ b := by
  unfold catF
  simp only [List.foldl_cons, List.foldl_nil]
  have : ({ data := #[] } : ByteArray) = ByteArray.empty := rfl
  rw [this, ByteArray.empty_append]
theorem catF_one (a : ByteArray) : catF [a] = a := by
  unfold catF
  simp only [List.foldl_cons, List.foldl_nil]
  have : ({ data := #[] } : ByteArray) = ByteArray.empty := rfl
  rw [this, ByteArray.empty_append]
theorem headI_nat (t n : Nat) : headI (t : Int) (n : Int) = head t n := by
  unfold headI head
  rw [itoa_num, itoa_num]

/-! ### Steps -/
theorem gate_up {n : Int} (h : Sd n) : gateF false n = 0 := by
  unfold gateF
  unfold Sd at h
  rw [if_neg (by simp), if_neg (by omega)]
/-- The tape a call later, with a change put. -/
def putOk (st : TapeSt) (c : Chg) : TapeSt := { st with calls := st.calls + 1, down := false, loose := st.loose ++ [c] }
def sealOk (st : TapeSt) : TapeSt := { st with calls := st.calls + 1, down := false, s0 := st.now.1, s1 := st.now.2, loose := [] }
def fallen (st : TapeSt) : TapeSt := { st with calls := st.calls + 1, down := true }
theorem wipe_ok {st : TapeSt} {n : Int} (hn : Sd n) (hd : st.down = false) (h : st.crash ≠ st.calls + 1) : wipeF st n = (putOk st (wipeC n), 0) := by
  unfold wipeF putF putC
  rw [hd, gate_up hn, if_pos rfl, if_neg h, if_neg h, decide_eq_false h]
  rfl
theorem wipe_hit {st : TapeSt} {n : Int} (hn : Sd n) (hd : st.down = false) (h : st.crash = st.calls + 1) : wipeF st n = (fallen st, 16) := by
  unfold wipeF putF putC
  rw [hd, gate_up hn, if_pos rfl, if_pos h, if_pos h, decide_eq_true h]
  rfl
theorem add_full {st : TapeSt} {n : Int} {l : List ByteArray} (hn : Sd n) (hd : st.down = false) (hr : st.room < addTot st n (catF l)) : addF st n l = (st, 15) := by
  unfold addF
  rw [hd, gate_up hn, if_pos rfl, if_pos hr]
theorem add_ok {st : TapeSt} {n : Int} {l : List ByteArray} (hn : Sd n) (hd : st.down = false) (hr : addTot st n (catF l) ≤ st.room) (h : st.crash ≠ st.calls + 1) : addF st n l = (putOk st (addC n (catF l)), 0) := by
  unfold addF putF putC
  rw [hd, gate_up hn, if_pos rfl, if_neg (by omega), if_neg h, if_neg h, decide_eq_false h]
  rfl
theorem add_hit {st : TapeSt} {n : Int} {l : List ByteArray} (hn : Sd n) (hd : st.down = false) (hr : addTot st n (catF l) ≤ st.room) (h : st.crash = st.calls + 1) : addF st n l = (fallen st, 16) := by
  unfold addF putF putC
  rw [hd, gate_up hn, if_pos rfl, if_neg (by omega), if_pos h, if_pos h, decide_eq_true h]
  rfl
theorem seal_ok {st : TapeSt} (hd : st.down = false) (h : st.crash ≠ st.calls + 1) : sealF st = (sealOk st, 0) := by
  unfold sealF
  rw [hd, if_neg (by simp), if_neg h]
  rfl
theorem seal_hit {st : TapeSt} (hd : st.down = false) (h : st.crash = st.calls + 1) : sealF st = (fallen st, 16) := by
  unfold sealF
  rw [hd, if_neg (by simp), if_pos h]
  rfl

/-! ### A journal that has lines -/
structure Has (st : TapeSt) (j : Jn) (xs : List S) : Prop where
  loose : Wipes (1 - j.side) st.loose
  down : st.down = false
  side : Sd j.side
  dead : j.dead = false
  lines : j.lines = xs.filterMap whole
  ok : ∀ s ∈ j.lines, okLine s = true
  free : ∀ x ∈ xs, nl ∉ x
  other : (readF (txt st (1 - j.side))).1 < j.turn ∨ j.turn = 0 ∧ (readF (txt st (1 - j.side))).1 = 0
  mine : (j.turn = 0 ∧ xs = [] ∧ j.side = 0 ∧ txt st 0 = []) ∨
    ∃ t n : Nat, j.turn = t ∧ 1 ≤ t ∧ t < 1000000000000 ∧ n ≤ (bodyOf xs).length ∧ (bodyOf xs).length < 1000000000000 ∧ txt st j.side = head t n ++ bodyOf xs
theorem readF_nonneg (s : S) : 0 ≤ (readF s).1 := by
  unfold readF
  simp only
  split
  · exact Int.le_refl _
  · rename_i h
    simp only
    omega
theorem Has.sd {st : TapeSt} {j : Jn} {xs : List S} (h : Has st j xs) : ∀ c ∈ st.loose, Sd c.side := h.loose.sd h.side.flip
theorem Has.vmine {st : TapeSt} {j : Jn} {xs : List S} (h : Has st j xs) : view st j.side = txt st j.side := by
  rw [view_fold h.side h.sd, fold_far (fun e => h.side.ne e.symm) _ _ h.loose]
  rfl
theorem Has.vother {st : TapeSt} {j : Jn} {xs : List S} (h : Has st j xs) : view st (1 - j.side) = txt st (1 - j.side) ∨ view st (1 - j.side) = [] := by
  rw [view_fold h.side.flip h.sd]
  rcases fold_near st.loose (pick (1 - j.side) (st.s0, st.s1)) h.loose with q | q
  · exact .inl (by rw [q]; rfl)
  · exact .inr (by rw [q]; rfl)
theorem Has.reads {st : TapeSt} {j : Jn} {xs : List S} (h : Has st j xs) (ht : j.turn ≠ 0) : readF (txt st j.side) = (j.turn, j.lines) := by
  rcases h.mine with ⟨h0, _⟩ | ⟨t, n, h1, h2, h3, h4, h5, h6⟩
  · exact absurd h0 ht
  · rw [h6, read_parts t n (by omega) (by omega), if_neg (by omega), unframed_body xs h.free, h1, h.lines]
theorem Has.turn0 {st : TapeSt} {j : Jn} {xs : List S} (h : Has st j xs) : 0 ≤ j.turn := by
  rcases h.mine with ⟨h0, _⟩ | ⟨t, n, h1, _⟩ <;> omega
/-- What the opener makes of two sides. -/
def ofSides (a b : S) : Jn := pickJ 1 (readF b) (pickJ 0 (readF a) ⟨0, 0, [], false⟩)
theorem openJ_eq (st : TapeSt) : openJ st = ofSides (view st 0) (view st 1) := rfl
theorem open_of {side turn : Int} {lines : List S} {a b : S} (hs : Sd side) (h0 : 0 ≤ turn) (hz : turn = 0 → side = 0 ∧ lines = [] ∧ (readF a).1 = 0)
    (hm : turn ≠ 0 → readF (if side = 0 then a else b) = (turn, lines)) (ho : (readF (if side = 0 then b else a)).1 < turn ∨ turn = 0 ∧ (readF (if side = 0 then b else a)).1 = 0) :
    ofSides a b = ⟨side, turn, lines, false⟩ := by
  unfold ofSides
  by_cases ht : turn = 0
  · obtain ⟨q1, q2, q3⟩ := hz ht
    subst q1 q2 ht
    rw [if_pos rfl] at ho
    have c1 : (readF b).1 = 0 := by
      have := readF_nonneg b
      omega
    have p0 : pickJ 0 (readF a) ⟨0, 0, [], false⟩ = ⟨0, 0, [], false⟩ := by
      unfold pickJ
      rw [if_neg (by rw [q3]; decide)]
    rw [p0]
    unfold pickJ
    rw [if_neg (by rw [c1]; decide)]
  · have hm := hm ht
    have hp : 0 < turn := by omega
    rcases hs with q | q <;> subst q
    · rw [if_pos rfl] at hm ho
      rw [hm]
      unfold pickJ
      simp only
      rw [if_pos hp, if_neg (by simp only; omega)]
    · rw [if_neg (by decide)] at hm ho
      rw [hm]
      unfold pickJ
      simp only
      by_cases hz : 0 < (readF a).1
      · rw [if_pos hz]
        simp only
        rw [if_pos (by omega)]
      · rw [if_neg hz]
        simp only
        rw [if_pos hp]
/-- Opened anew it is the same. -/
theorem Has.opened {st : TapeSt} {j : Jn} {xs : List S} (h : Has st j xs) : openJ st = j := by
  rw [openJ_eq]
  have hsd := h.side
  have hvm := h.vmine
  have hvo := h.vother
  have hr := h.reads
  have ho := h.other
  have hmm := h.mine
  have ht := h.turn0
  have hd := h.dead
  have hl := h.lines
  obtain ⟨side, turn, lines, dead⟩ := j
  simp only at *
  subst hd
  have em : (if side = 0 then view st 0 else view st 1) = txt st side := by
    rw [← hvm]
    rcases hsd with q | q <;> subst q <;> rfl
  have eo : (if side = 0 then view st 1 else view st 0) = view st (1 - side) := by
    rcases hsd with q | q <;> subst q <;> rfl
  refine open_of hsd ht (fun h0 => ?_) (fun h0 => by rw [em]; exact hr h0) ?_
  · rcases hmm with ⟨_, a, b, c⟩ | ⟨t, n, h1, h2, _⟩
    · refine ⟨b, by rw [hl, a]; rfl, ?_⟩
      subst b
      rw [hvm, c, read_nil]
    · omega
  · rw [eo]
    rcases hvo with q | q
    · rw [q]; exact ho
    · rw [q, read_nil]
      by_cases h0 : turn = 0
      · exact .inr ⟨h0, rfl⟩
      · exact .inl (by show (0 : Int) < turn; omega)
end Go.Proofs.YtepcagakegbjfaaDoor.Jr
/- A journal on a tape: new lines, one more line, and falls. No program in sight. -/
namespace Go.Proofs.YtepcagakegbjfaaDoor.Jr
open Go Go.Lib
set_option linter.unusedSimpArgs false

theorem txt_seal {st : TapeSt} {n : Int} : txt (sealOk st) n = view st n := rfl
theorem view_put {st : TapeSt} {n : Int} (hn : Sd n) {c : Chg} (h : ∀ x ∈ st.loose, Sd x.side) (hc : Sd c.side) :
    view (putOk st c) n = if c.side = n then (if c.wipe then lb c.more else view st n ++ lb c.more) else view st n := by
  have h2 : ∀ x ∈ (putOk st c).loose, Sd x.side := fun x hx => by
    rcases List.mem_append.1 hx with q | q
    · exact h x q
    · rw [List.mem_singleton.1 q]; exact hc
  rw [view_fold hn h2, view_fold hn h]
  show lb (foldS n (st.loose ++ [c]) _) = _
  rw [foldS_app]
  show lb (if c.side = n then (if c.wipe then c.more else foldS n st.loose (pick n (st.s0, st.s1)) ++ c.more) else foldS n st.loose (pick n (st.s0, st.s1))) = _
  split
  · split
    · rfl
    · rw [lb_app]
  · rfl
theorem sd_put {st : TapeSt} {c : Chg} (h : ∀ x ∈ st.loose, Sd x.side) (hc : Sd c.side) : ∀ x ∈ (putOk st c).loose, Sd x.side := fun x hx => by
  rcases List.mem_append.1 hx with q | q
  · exact h x q
  · rw [List.mem_singleton.1 q]; exact hc
theorem frames_free {l : List S} (h : ∀ s ∈ l, okLine s = true) : ∀ x ∈ l.map chunk, nl ∉ x := frames_nl fun s hs => okLine_nl (h s hs)

/-! ### A fall -/
/-- What a fall keeps of what is loose: some whole changes, and a part of the next one. -/
theorem torn_cases (l : List Chg) (kept : Nat) (torn : Int) : (∃ k, tornL l kept torn = l.take k) ∨ ∃ k c d, l.drop k = c :: d ∧ c.wipe = false ∧ tornL l kept torn = l.take k ++ [cutMore c (partF torn c.more.size).toNat] := by
  unfold tornL
  split
  · exact .inl ⟨kept, rfl⟩
  · rename_i c d hd
    split
    · exact .inl ⟨kept, rfl⟩
    · rename_i hw
      exact .inr ⟨kept, c, d, hd, by simpa using hw, rfl⟩
theorem torn_wipes {n : Int} {l : List Chg} (h : Wipes n l) (kept : Nat) (torn : Int) : ∃ k, tornL l kept torn = l.take k := by
  rcases torn_cases l kept torn with q | ⟨k, c, d, h1, h2, h3⟩
  · exact q
  · have hc : c ∈ l := List.mem_of_mem_drop (by rw [h1]; exact List.mem_cons_self ..)
    rw [h c hc] at h2
    cases h2
theorem txt_fall {st : TapeSt} {n : Int} (hn : Sd n) (room crash keep torn : Int) (h : ∀ c ∈ tornL st.loose (partF keep st.loose.length).toNat torn, Sd c.side) :
    txt (fallF st room crash keep torn) n = lb (foldS n (tornL st.loose (partF keep st.loose.length).toNat torn) (pick n (st.s0, st.s1))) := by
  unfold txt
  rw [← pick_now hn _ _ h]
  rfl
/-- A journal's lines outlast a fall. -/
theorem Has.fall {st : TapeSt} {j : Jn} {xs : List S} (h : Has st j xs) (room crash keep torn : Int) : Has (fallF st room crash keep torn) j xs := by
  obtain ⟨k, hk⟩ := torn_wipes h.loose (partF keep st.loose.length).toNat torn
  have hw := h.loose.take k
  have e1 : txt (fallF st room crash keep torn) j.side = txt st j.side := by
    rw [txt_fall h.side _ _ _ _ (by rw [hk]; exact hw.sd h.side.flip), hk, fold_far (fun e => h.side.ne e.symm) _ _ hw]
    rfl
  have e2 : txt (fallF st room crash keep torn) (1 - j.side) = txt st (1 - j.side) ∨ txt (fallF st room crash keep torn) (1 - j.side) = [] := by
    rw [txt_fall h.side.flip _ _ _ _ (by rw [hk]; exact hw.sd h.side.flip), hk]
    rcases fold_near (st.loose.take k) (pick (1 - j.side) (st.s0, st.s1)) hw with q | q
    · exact .inl (by rw [q]; rfl)
    · exact .inr (by rw [q]; rfl)
  refine ⟨(fun c hc => by cases hc), rfl, h.side, h.dead, h.lines, h.ok, h.free, ?_, ?_⟩
  · rcases e2 with q | q
    · rw [q]; exact h.other
    · rw [q, read_nil]
      have := h.turn0
      by_cases h0 : j.turn = 0
      · exact .inr ⟨h0, rfl⟩
      · exact .inl (by show (0 : Int) < j.turn; omega)
  · rcases h.mine with ⟨a, b, c, d⟩ | ⟨t, n, h1, h2, h3, h4, h5, h6⟩
    · rw [c] at e1
      exact .inl ⟨a, b, c, by rw [e1]; exact d⟩
    · exact .inr ⟨t, n, h1, h2, h3, h4, h5, by rw [e1]; exact h6⟩

/-! ### New lines -/
/-- A tape that is down, and has, whatever a fall keeps, one of two journals. -/
def Down (st : TapeSt) (P : TapeSt → Prop) : Prop := st.down = true ∧ ∀ room crash keep torn, P (fallF st room crash keep torn)
theorem txt_loose (st st' : TapeSt) (h0 : st'.s0 = st.s0) (h1 : st'.s1 = st.s1) (n : Int) : txt st' n = txt st n := by
  unfold txt
  rw [h0, h1]
/-- The same journal on a tape that counted on. -/
theorem Has.more {st st' : TapeSt} {j : Jn} {xs : List S} (h : Has st j xs) (h0 : st'.s0 = st.s0) (h1 : st'.s1 = st.s1) (hl : Wipes (1 - j.side) st'.loose) (hd : st'.down = false) : Has st' j xs := by
  refine ⟨hl, hd, h.side, h.dead, h.lines, h.ok, h.free, ?_, ?_⟩
  · rw [txt_loose st st' h0 h1]; exact h.other
  · rw [txt_loose st st' h0 h1, txt_loose st st' h0 h1]; exact h.mine
theorem fall_down (st : TapeSt) (room crash keep torn : Int) (b : Bool) (c : Int) : fallF { st with down := b, calls := c } room crash keep torn = fallF st room crash keep torn := rfl
theorem Has.down_of {st st' : TapeSt} {j : Jn} {xs : List S} (h : Has st j xs) (h0 : st'.s0 = st.s0) (h1 : st'.s1 = st.s1) (hl : Wipes (1 - j.side) st'.loose) (hd : st'.down = true) : Down st' fun s => Has s j xs := by
  refine ⟨hd, fun room crash keep torn => ?_⟩
  have := (h.more (st' := { st' with down := false }) h0 h1 hl rfl).fall room crash keep torn
  exact this
/-- The journal behind new lines. -/
def anewJ (j : Jn) (l : List S) : Jn := ⟨1 - j.side, j.turn + 1, l, false⟩
theorem Has.anew {st st' : TapeSt} {j : Jn} {xs : List S} (h : Has st j xs) {l : List S} (hl : ∀ s ∈ l, okLine s = true) (ht : j.turn < 999999999999) (hf : (frames l).length < 1000000000000)
    (hlo : st'.loose = []) (hd : st'.down = false) (h1 : txt st' (1 - j.side) = headI (j.turn + 1) (frames l).length ++ frames l) (h2 : txt st' j.side = txt st j.side) : Has st' (anewJ j l) (l.map chunk) := by
  have h0 := h.turn0
  obtain ⟨t, ht1⟩ : ∃ t : Nat, j.turn = t := ⟨j.turn.toNat, by omega⟩
  have hh : headI (j.turn + 1) (frames l).length = head (t + 1) (frames l).length := by
    rw [ht1, ← headI_nat]; rfl
  rw [hh] at h1
  refine ⟨(fun c hc => by rw [hlo] at hc; cases hc), hd, h.side.flip, rfl, (whole_chunks l).symm, hl, frames_free hl, .inl ?_, .inr ⟨t + 1, (frames l).length, ?_, by omega, by omega, Nat.le_refl _, hf, h1⟩⟩
  · show (readF (txt st' (1 - (1 - j.side)))).1 < j.turn + 1
    rw [Sd.flip2, h2]
    by_cases hz : j.turn = 0
    · rcases h.mine with ⟨_, _, c, d⟩ | ⟨t', n, h1, h2, _⟩
      · rw [c, d, read_nil]
        show (0 : Int) < _
        omega
      · omega
    · rw [h.reads hz]
      show j.turn < j.turn + 1
      omega
  · show j.turn + 1 = ((t + 1 : Nat) : Int)
    omega
/-- A side with a part of new lines: it does not count. -/
theorem Has.part {st st' : TapeSt} {j : Jn} {xs : List S} (h : Has st j xs) {l : List S} (ht : j.turn < 999999999999) (hf : (frames l).length < 1000000000000)
    (hlo : st'.loose = []) (hd : st'.down = false) (k : Nat) (hk : k < (headI (j.turn + 1) (frames l).length ++ frames l).length) (h1 : txt st' (1 - j.side) = (headI (j.turn + 1) (frames l).length ++ frames l).take k) (h2 : txt st' j.side = txt st j.side) : Has st' j xs := by
  have h0 := h.turn0
  obtain ⟨t, ht1⟩ : ∃ t : Nat, j.turn = t := ⟨j.turn.toNat, by omega⟩
  have hh : headI (j.turn + 1) (frames l).length = head (t + 1) (frames l).length := by
    rw [ht1, ← headI_nat]; rfl
  rw [hh] at h1 hk
  rw [List.length_append] at hk
  have hz := read_torn (t + 1) (frames l).length (by omega) (by omega) (frames l) rfl k hk
  refine ⟨(fun c hc => by rw [hlo] at hc; cases hc), hd, h.side, h.dead, h.lines, h.ok, h.free, ?_, ?_⟩
  · rw [h1, hz]
    by_cases h0 : j.turn = 0
    · exact .inr ⟨h0, rfl⟩
    · exact .inl (by show (0 : Int) < j.turn; omega)
  · rcases h.mine with ⟨a, b, c, d⟩ | ⟨t', n, q1, q2, q3, q4, q5, q6⟩
    · rw [c] at h2
      exact .inl ⟨a, b, c, by rw [h2]; exact d⟩
    · exact .inr ⟨t', n, q1, q2, q3, q4, q5, by rw [h2]; exact q6⟩
end Go.Proofs.YtepcagakegbjfaaDoor.Jr
/- A journal on a tape: what its calls come to, wherever the tape falls. No program in sight. -/
namespace Go.Proofs.YtepcagakegbjfaaDoor.Jr
open Go Go.Lib
set_option linter.unusedSimpArgs false

theorem putOk_calls (st : TapeSt) (c : Chg) : (putOk st c).calls = st.calls + 1 := rfl
theorem putOk_crash (st : TapeSt) (c : Chg) : (putOk st c).crash = st.crash := rfl
theorem putOk_room (st : TapeSt) (c : Chg) : (putOk st c).room = st.room := rfl
theorem putOk_down (st : TapeSt) (c : Chg) : (putOk st c).down = false := rfl
/-- The sides behind a wipe of the one that does not count. -/
theorem Has.wiped {st : TapeSt} {j : Jn} {xs : List S} (h : Has st j xs) : view (putOk st (wipeC (1 - j.side))) j.side = txt st j.side ∧ view (putOk st (wipeC (1 - j.side))) (1 - j.side) = [] := by
  constructor
  · rw [view_put h.side h.sd h.side.flip, if_neg (show ¬ (wipeC (1 - j.side)).side = j.side from fun e => h.side.ne e.symm), h.vmine]
  · rw [view_put h.side.flip h.sd h.side.flip, if_pos (show (wipeC (1 - j.side)).side = 1 - j.side from rfl), if_pos (show (wipeC (1 - j.side)).wipe = true from rfl)]
    rfl
theorem Has.wiped_has {st : TapeSt} {j : Jn} {xs : List S} (h : Has st j xs) : Has (putOk st (wipeC (1 - j.side))) j xs := h.more rfl rfl h.loose.snoc rfl
/-- How much of the tape is taken where new lines lie beside the old ones. -/
def newLen (st : TapeSt) (j : Jn) (l : List S) : Int := ((txt st j.side).length : Int) + ((headI (j.turn + 1) (frames l).length).length : Int) + ((frames l).length : Int)
def newTxt (j : Jn) (l : List S) : S := headI (j.turn + 1) (frames l).length ++ frames l
/-- What a call of 'anew' comes to. -/
inductive Anew (st : TapeSt) (j : Jn) (xs l : List S) : TapeSt × Jn × Int → Prop
  | ok (st') : Has st' (anewJ j l) (l.map chunk) → st'.room = st.room → st'.crash = st.crash → st'.calls = st.calls + 3 → txt st' (1 - j.side) = newTxt j l → txt st' j.side = txt st j.side → st'.loose = [] → Anew st j xs l (st', anewJ j l, 0)
  | full (st') : st.room < newLen st j l → Has st' j xs → st'.room = st.room → st'.crash = st.crash → st'.calls = st.calls + 1 → st'.loose ≠ [] → txt st' j.side = txt st j.side → Anew st j xs l (st', j, 15)
  | fell (st' j') : Down st' (fun s => Has s j xs ∨ Has s (anewJ j l) (l.map chunk)) → Anew st j xs l (st', j', 16)
theorem toldF_15 (j : Jn) (h : j.dead = false) : toldF j 15 = j := by
  unfold toldF
  obtain ⟨a, b, c, d⟩ := j
  simp only at h
  subst h
  rfl
theorem anew_all {st : TapeSt} {j : Jn} {xs : List S} (h : Has st j xs) {l : List S} (hl : ∀ s ∈ l, okLine s = true) (ht : j.turn < 999999999999) (hf : (frames l).length < 1000000000000) : Anew st j xs l (anewF st j l) := by
  obtain ⟨w1, w2⟩ := h.wiped
  have hw := h.wiped_has
  have hfl := h.side.flip
  by_cases c1 : st.crash = st.calls + 1
  · have e : anewF st j l = (fallen st, toldF j 16, 16) := by
      unfold anewF
      simp only
      rw [wipe_hit hfl h.down c1]
      rfl
    rw [e]
    refine .fell _ _ ?_
    have := h.down_of (st' := fallen st) rfl rfl h.loose rfl
    exact ⟨this.1, fun a b c d => .inl (this.2 a b c d)⟩
  have e1 := wipe_ok hfl h.down c1
  have etot : addTot (putOk st (wipeC (1 - j.side))) (1 - j.side) (catF [bs (headI (j.turn + 1) (frames l).length), bs (frames l)]) = newLen st j l := by
    rw [addTot_eq _ hfl, w2, Sd.flip2, w1, catF_two, ← bs_app, bs_size, List.length_append]
    unfold newLen
    simp only [List.length_nil]
    omega
  by_cases c2 : st.room < newLen st j l
  · have e : anewF st j l = (putOk st (wipeC (1 - j.side)), j, 15) := by
      unfold anewF
      simp only
      rw [e1]
      simp only [ne_eq, not_true_eq_false, if_false]
      rw [add_full hfl rfl (by rw [etot]; exact c2)]
      simp only [toldF_15 j h.dead]
      rfl
    rw [e]
    refine .full _ c2 hw rfl rfl rfl ?_ rfl
    show st.loose ++ [_] ≠ []
    simp
  by_cases c3 : st.crash = st.calls + 1 + 1
  · have e : anewF st j l = (fallen (putOk st (wipeC (1 - j.side))), toldF j 16, 16) := by
      unfold anewF
      simp only
      rw [e1]
      simp only [ne_eq, not_true_eq_false, if_false]
      rw [add_hit hfl rfl (by rw [etot]; show _ ≤ st.room; omega) c3]
      rfl
    rw [e]
    refine .fell _ _ ?_
    have := hw.down_of (st' := fallen (putOk st (wipeC (1 - j.side)))) rfl rfl hw.loose rfl
    exact ⟨this.1, fun a b c d => .inl (this.2 a b c d)⟩
  have e2 := add_ok (st := putOk st (wipeC (1 - j.side))) (n := 1 - j.side) (l := [bs (headI (j.turn + 1) (frames l).length), bs (frames l)]) hfl rfl (by rw [etot]; show _ ≤ st.room; omega) c3
  have hcat : catF [bs (headI (j.turn + 1) (frames l).length), bs (frames l)] = bs (newTxt j l) := by rw [catF_two, ← bs_app]; rfl
  rw [hcat] at e2
  have hsd2 := sd_put (st := putOk st (wipeC (1 - j.side))) (c := addC (1 - j.side) (bs (newTxt j l))) hw.sd hfl
  have v1 : view (putOk (putOk st (wipeC (1 - j.side))) (addC (1 - j.side) (bs (newTxt j l)))) j.side = txt st j.side := by
    rw [view_put h.side hw.sd hfl, if_neg (show ¬ (addC (1 - j.side) (bs (newTxt j l))).side = j.side from fun e => h.side.ne e.symm), w1]
  have v2 : view (putOk (putOk st (wipeC (1 - j.side))) (addC (1 - j.side) (bs (newTxt j l)))) (1 - j.side) = newTxt j l := by
    rw [view_put hfl hw.sd hfl, if_pos (show (addC (1 - j.side) (bs (newTxt j l))).side = 1 - j.side from rfl), if_neg (by simp [addC]), w2]
    simp only [addC, lb_bs, List.nil_append]
  by_cases c4 : st.crash = st.calls + 1 + 1 + 1
  · have e : anewF st j l = (fallen (putOk (putOk st (wipeC (1 - j.side))) (addC (1 - j.side) (bs (newTxt j l)))), toldF j 16, 16) := by
      unfold anewF
      simp only
      rw [e1]
      simp only [ne_eq, not_true_eq_false, if_false]
      rw [e2]
      simp only [ne_eq, not_true_eq_false, if_false]
      rw [seal_hit rfl c4]
      rfl
    rw [e]
    refine .fell _ _ ⟨rfl, fun room crash keep torn => ?_⟩
    -- what a fall keeps
    generalize hst : fallen (putOk (putOk st (wipeC (1 - j.side))) (addC (1 - j.side) (bs (newTxt j l)))) = st3
    have hloose : st3.loose = (st.loose ++ [wipeC (1 - j.side)]) ++ [addC (1 - j.side) (bs (newTxt j l))] := by rw [← hst]; rfl
    have hs0 : st3.s0 = st.s0 := by rw [← hst]; rfl
    have hs1 : st3.s1 = st.s1 := by rw [← hst]; rfl
    have hws : Wipes (1 - j.side) (st.loose ++ [wipeC (1 - j.side)]) := h.loose.snoc
    have hsd3 : ∀ c ∈ st3.loose, Sd c.side := by rw [hloose]; exact hsd2
    -- the kept changes are wipes, or all wipes and a part of the new lines
    have key : (∃ k, tornL st3.loose (partF keep st3.loose.length).toNat torn = (st.loose ++ [wipeC (1 - j.side)]).take k) ∨
        ∃ m, tornL st3.loose (partF keep st3.loose.length).toNat torn = (st.loose ++ [wipeC (1 - j.side)]) ++ [addC (1 - j.side) (bs ((newTxt j l).take m))] := by
      generalize (partF keep st3.loose.length).toNat = kept
      rw [hloose]
      generalize (st.loose ++ [wipeC (1 - j.side)]) = W at hws
      rcases Nat.lt_or_ge kept W.length with hk | hk
      · have hd : (W ++ [addC (1 - j.side) (bs (newTxt j l))]).drop kept = W[kept] :: (W ++ [addC (1 - j.side) (bs (newTxt j l))]).drop (kept + 1) := by
          rw [List.drop_eq_getElem_cons (by rw [List.length_append]; omega), List.getElem_append_left hk]
        have hw1 : W[kept].wipe = true := by rw [hws _ (List.getElem_mem hk)]; rfl
        left
        refine ⟨kept, ?_⟩
        unfold tornL
        rw [hd]
        simp only [hw1, if_true]
        exact List.take_append_of_le_length (by omega)
      · right
        rcases Nat.lt_or_ge W.length kept with hk2 | hk2
        · refine ⟨(newTxt j l).length, ?_⟩
          unfold tornL
          rw [List.drop_eq_nil_of_le (by rw [List.length_append]; show W.length + 1 ≤ _; omega)]
          simp only
          rw [List.take_of_length_le (by rw [List.length_append]; show W.length + 1 ≤ _; omega), List.take_length]
        · have hk3 : kept = W.length := by omega
          subst hk3
          refine ⟨(partF torn (bs (newTxt j l)).size).toNat, ?_⟩
          unfold tornL
          rw [List.drop_left]
          simp only [addC, Bool.false_eq_true, if_false]
          rw [List.take_left]
          unfold cutMore
          simp only
          have : (bs (newTxt j l)).extract 0 (partF torn (bs (newTxt j l)).size).toNat = bs ((newTxt j l).take (partF torn (bs (newTxt j l)).size).toNat) := by
            rw [← bs_lb ((bs (newTxt j l)).extract 0 _), lb_take, lb_bs]
          rw [this]
    rcases key with ⟨k, hk⟩ | ⟨m, hm⟩
    · left
      have hk' := hws.take k
      have f1 : txt (fallF st3 room crash keep torn) j.side = txt st j.side := by
        rw [txt_fall h.side _ _ _ _ (by rw [hk]; exact hk'.sd hfl), hk, fold_far (fun e => h.side.ne e.symm) _ _ hk', hs0, hs1]
        rfl
      have f2 : txt (fallF st3 room crash keep torn) (1 - j.side) = txt st (1 - j.side) ∨ txt (fallF st3 room crash keep torn) (1 - j.side) = [] := by
        rw [txt_fall hfl _ _ _ _ (by rw [hk]; exact hk'.sd hfl), hk, hs0, hs1]
        rcases fold_near ((st.loose ++ [wipeC (1 - j.side)]).take k) (pick (1 - j.side) (st.s0, st.s1)) hk' with q | q
        · exact .inl (by rw [q]; rfl)
        · exact .inr (by rw [q]; rfl)
      refine ⟨(fun c hc => by cases hc), rfl, h.side, h.dead, h.lines, h.ok, h.free, ?_, ?_⟩
      · rcases f2 with q | q
        · rw [q]; exact h.other
        · rw [q, read_nil]
          have := h.turn0
          by_cases h0 : j.turn = 0
          · exact .inr ⟨h0, rfl⟩
          · exact .inl (by show (0 : Int) < j.turn; omega)
      · rcases h.mine with ⟨a, b, c, d⟩ | ⟨t, n, q1, q2, q3, q4, q5, q6⟩
        · rw [c] at f1
          exact .inl ⟨a, b, c, by rw [f1]; exact d⟩
        · exact .inr ⟨t, n, q1, q2, q3, q4, q5, by rw [f1]; exact q6⟩
    · have hsd4 : ∀ c ∈ tornL st3.loose (partF keep st3.loose.length).toNat torn, Sd c.side := by
        rw [hm]
        intro c hc
        rcases List.mem_append.1 hc with q | q
        · exact hws.sd hfl c q
        · rw [List.mem_singleton.1 q]; exact hfl
      have f1 : txt (fallF st3 room crash keep torn) j.side = txt st j.side := by
        rw [txt_fall h.side _ _ _ _ hsd4, hm, foldS_app, fold_far (fun e => h.side.ne e.symm) _ _ hws, hs0, hs1]
        show lb (if (1 - j.side) = j.side then _ else _) = _
        rw [if_neg (fun e => h.side.ne e.symm)]
        rfl
      have f2 : txt (fallF st3 room crash keep torn) (1 - j.side) = (newTxt j l).take m := by
        rw [txt_fall hfl _ _ _ _ hsd4, hm, foldS_app, foldS_app]
        show lb (if (1 - j.side) = (1 - j.side) then (if false then _ else (if (1 - j.side) = (1 - j.side) then (if true then (⟨#[]⟩ : ByteArray) else _) else _) ++ bs ((newTxt j l).take m)) else _) = _
        simp only [if_true, Bool.false_eq_true, if_false, lb_app, lb_bs, lb_empty, List.nil_append]
      rcases Nat.lt_or_ge m (newTxt j l).length with hm2 | hm2
      · exact .inl (h.part ht hf rfl rfl m hm2 f2 f1)
      · rw [List.take_of_length_le hm2] at f2
        exact .inr (h.anew hl ht hf rfl rfl f2 f1)
  · have e : anewF st j l = (sealOk (putOk (putOk st (wipeC (1 - j.side))) (addC (1 - j.side) (bs (newTxt j l)))), { j with side := 1 - j.side, turn := j.turn + 1, lines := l }, 0) := by
      unfold anewF
      simp only
      rw [e1]
      simp only [ne_eq, not_true_eq_false, if_false]
      rw [e2]
      simp only [ne_eq, not_true_eq_false, if_false]
      rw [seal_ok rfl c4]
      rfl
    rw [e]
    have ej : ({ j with side := 1 - j.side, turn := j.turn + 1, lines := l } : Jn) = anewJ j l := by
      unfold anewJ
      rw [h.dead]
    rw [ej]
    exact .ok _ (h.anew hl ht hf rfl rfl v2 v1) rfl rfl (by show st.calls + 1 + 1 + 1 = _; omega) v2 v1 rfl
end Go.Proofs.YtepcagakegbjfaaDoor.Jr
/- A journal on a tape: one more line, wherever the tape falls. No program in sight. -/
namespace Go.Proofs.YtepcagakegbjfaaDoor.Jr
open Go Go.Lib
set_option linter.unusedSimpArgs false

theorem body_snoc (xs : List S) (x : S) : bodyOf (xs ++ [x]) = bodyOf xs ++ nl :: x := by
  rw [body_app]
  show _ ++ nl :: (x ++ bodyOf []) = _
  rw [show bodyOf [] = [] from rfl, List.append_nil]
def behindJ (j : Jn) (s : S) : Jn := { j with lines := j.lines ++ [s] }
/-- One more chunk on the side that counts. -/
theorem Has.grow {st st' : TapeSt} {j j' : Jn} {xs : List S} (h : Has st j xs) (ht : j.turn ≠ 0) {x : S} (hx : nl ∉ x) (hb : (bodyOf xs).length + x.length + 1 < 1000000000000)
    (hlo : st'.loose = []) (hd : st'.down = false) (h1 : txt st' j.side = txt st j.side ++ nl :: x) (h2 : txt st' (1 - j.side) = txt st (1 - j.side) ∨ txt st' (1 - j.side) = [])
    (e1 : j'.side = j.side) (e2 : j'.turn = j.turn) (e3 : j'.dead = false) (e4 : j'.lines = (xs ++ [x]).filterMap whole) (e5 : ∀ s ∈ j'.lines, okLine s = true) : Has st' j' (xs ++ [x]) := by
  refine ⟨(fun c hc => by rw [hlo] at hc; cases hc), hd, by rw [e1]; exact h.side, e3, e4, e5, ?_, ?_, ?_⟩
  · intro y hy
    rcases List.mem_append.1 hy with q | q
    · exact h.free y q
    · rw [List.mem_singleton.1 q]; exact hx
  · rw [e1, e2]
    rcases h2 with q | q
    · rw [q]; exact h.other
    · rw [q, read_nil]
      have := h.turn0
      exact .inl (by show (0 : Int) < j.turn; omega)
  · rcases h.mine with ⟨a, _⟩ | ⟨t, n, q1, q2, q3, q4, q5, q6⟩
    · exact absurd a ht
    · refine .inr ⟨t, n, by rw [e2]; exact q1, q2, q3, ?_, ?_, ?_⟩
      · rw [body_snoc, List.length_append]; omega
      · rw [body_snoc, List.length_append, List.length_cons]; omega
      · rw [e1, h1, q6, body_snoc, List.append_assoc]
/-- Nothing more on the side that counts. -/
theorem Has.stay {st st' : TapeSt} {j : Jn} {xs : List S} (h : Has st j xs) (hlo : st'.loose = []) (hd : st'.down = false) (h1 : txt st' j.side = txt st j.side) (h2 : txt st' (1 - j.side) = txt st (1 - j.side) ∨ txt st' (1 - j.side) = []) : Has st' j xs := by
  refine ⟨(fun c hc => by rw [hlo] at hc; cases hc), hd, h.side, h.dead, h.lines, h.ok, h.free, ?_, ?_⟩
  · rcases h2 with q | q
    · rw [q]; exact h.other
    · rw [q, read_nil]
      have := h.turn0
      by_cases h0 : j.turn = 0
      · exact .inr ⟨h0, rfl⟩
      · exact .inl (by show (0 : Int) < j.turn; omega)
  · rcases h.mine with ⟨a, b, c, d⟩ | ⟨t, n, q1, q2, q3, q4, q5, q6⟩
    · rw [c] at h1
      exact .inl ⟨a, b, c, by rw [h1]; exact d⟩
    · exact .inr ⟨t, n, q1, q2, q3, q4, q5, by rw [h1]; exact q6⟩
/-- A tape that is down, and has either the one journal or the other. -/
def DownE (st : TapeSt) (j j' : Jn) : Prop := Down st fun s => (∃ xs, Has s j xs) ∨ ∃ xs, Has s j' xs
/-- What a call of 'behind' comes to. -/
inductive Behind (st : TapeSt) (j : Jn) (xs : List S) (s : S) : TapeSt × Jn × Int → Prop
  | ok (st') : Has st' (behindJ j s) (xs ++ [chunk s]) → st'.room = st.room → st'.crash = st.crash → st'.calls = st.calls + 2 → txt st' j.side = txt st j.side ++ frame s → txt st' (1 - j.side) = view st (1 - j.side) → st'.loose = [] → Behind st j xs s (st', behindJ j s, 0)
  | full : st.room < ((txt st j.side).length : Int) + (frame s).length + (view st (1 - j.side)).length → Behind st j xs s (st, j, 15)
  | fell (st' j') : DownE st' j (behindJ j s) → Behind st j xs s (st', j', 16)
theorem behind_all {st : TapeSt} {j : Jn} {xs : List S} (h : Has st j xs) {s : S} (hs : okLine s = true) (ht : j.turn ≠ 0) (hf : (bodyOf xs).length + (chunk s).length + 1 < 1000000000000) : Behind st j xs s (behindF st j s) := by
  have hfl := h.side.flip
  have etot : addTot st j.side (catF [bs (frame s)]) = ((txt st j.side).length : Int) + (frame s).length + (view st (1 - j.side)).length := by
    rw [addTot_eq _ h.side, h.vmine, catF_one, bs_size]
  by_cases c2 : st.room < ((txt st j.side).length : Int) + (frame s).length + (view st (1 - j.side)).length
  · have e : behindF st j s = (st, j, 15) := by
      unfold behindF
      simp only
      rw [add_full h.side h.down (by rw [etot]; exact c2)]
      simp only [toldF_15 j h.dead]
      rfl
    rw [e]
    exact .full c2
  by_cases c3 : st.crash = st.calls + 1
  · have e : behindF st j s = (fallen st, toldF j 16, 16) := by
      unfold behindF
      simp only
      rw [add_hit h.side h.down (by rw [etot]; omega) c3]
      rfl
    rw [e]
    refine .fell _ _ ?_
    have := h.down_of (st' := fallen st) rfl rfl h.loose rfl
    exact ⟨this.1, fun a b c d => .inl ⟨xs, this.2 a b c d⟩⟩
  have e2 := add_ok (st := st) (n := j.side) (l := [bs (frame s)]) h.side h.down (by rw [etot]; omega) c3
  rw [catF_one] at e2
  have hsd2 := sd_put (st := st) (c := addC j.side (bs (frame s))) h.sd h.side
  have v1 : view (putOk st (addC j.side (bs (frame s)))) j.side = txt st j.side ++ frame s := by
    rw [view_put h.side h.sd h.side, if_pos (show (addC j.side (bs (frame s))).side = j.side from rfl), if_neg (by simp [addC]), h.vmine]
    simp only [addC, lb_bs]
  have v2 : view (putOk st (addC j.side (bs (frame s)))) (1 - j.side) = view st (1 - j.side) := by
    rw [view_put hfl h.sd h.side, if_neg (show ¬ (addC j.side (bs (frame s))).side = 1 - j.side from h.side.ne)]
  have hokl : ∀ x ∈ (behindJ j s).lines, okLine x = true := fun x hx => by
    rcases List.mem_append.1 hx with q | q
    · exact h.ok x q
    · rw [List.mem_singleton.1 q]; exact hs
  have hwl : (behindJ j s).lines = (xs ++ [chunk s]).filterMap whole := by
    rw [List.filterMap_append, ← h.lines]
    show j.lines ++ [s] = _
    rw [List.filterMap_cons, whole_chunk]
    rfl
  have hnlc := nl_chunk (okLine_nl hs)
  by_cases c4 : st.crash = st.calls + 1 + 1
  · have e : behindF st j s = (fallen (putOk st (addC j.side (bs (frame s)))), toldF j 16, 16) := by
      unfold behindF
      simp only
      rw [e2]
      simp only [ne_eq, not_true_eq_false, if_false]
      rw [seal_hit rfl c4]
      rfl
    rw [e]
    refine .fell _ _ ⟨rfl, fun room crash keep torn => ?_⟩
    generalize hst : fallen (putOk st (addC j.side (bs (frame s)))) = st3
    have hloose : st3.loose = st.loose ++ [addC j.side (bs (frame s))] := by rw [← hst]; rfl
    have hs0 : st3.s0 = st.s0 := by rw [← hst]; rfl
    have hs1 : st3.s1 = st.s1 := by rw [← hst]; rfl
    have hws := h.loose
    have key : (∃ k, tornL st3.loose (partF keep st3.loose.length).toNat torn = st.loose.take k) ∨
        ∃ m, tornL st3.loose (partF keep st3.loose.length).toNat torn = st.loose ++ [addC j.side (bs ((frame s).take m))] := by
      generalize (partF keep st3.loose.length).toNat = kept
      rw [hloose]
      generalize st.loose = W at hws
      rcases Nat.lt_or_ge kept W.length with hk | hk
      · have hd : (W ++ [addC j.side (bs (frame s))]).drop kept = W[kept] :: (W ++ [addC j.side (bs (frame s))]).drop (kept + 1) := by
          rw [List.drop_eq_getElem_cons (by rw [List.length_append]; omega), List.getElem_append_left hk]
        have hw1 : W[kept].wipe = true := by rw [hws _ (List.getElem_mem hk)]; rfl
        left
        refine ⟨kept, ?_⟩
        unfold tornL
        rw [hd]
        simp only [hw1, if_true]
        exact List.take_append_of_le_length (by omega)
      · right
        rcases Nat.lt_or_ge W.length kept with hk2 | hk2
        · refine ⟨(frame s).length, ?_⟩
          unfold tornL
          rw [List.drop_eq_nil_of_le (by rw [List.length_append]; show W.length + 1 ≤ _; omega)]
          simp only
          rw [List.take_of_length_le (by rw [List.length_append]; show W.length + 1 ≤ _; omega), List.take_length]
        · have hk3 : kept = W.length := by omega
          subst hk3
          refine ⟨(partF torn (bs (frame s)).size).toNat, ?_⟩
          unfold tornL
          rw [List.drop_left]
          simp only [addC, Bool.false_eq_true, if_false]
          rw [List.take_left]
          unfold cutMore
          simp only
          have : (bs (frame s)).extract 0 (partF torn (bs (frame s)).size).toNat = bs ((frame s).take (partF torn (bs (frame s)).size).toNat) := by
            rw [← bs_lb ((bs (frame s)).extract 0 _), lb_take, lb_bs]
          rw [this]
    rcases key with ⟨k, hk⟩ | ⟨m, hm⟩
    · left
      have hk' := hws.take k
      refine ⟨xs, h.stay rfl rfl ?_ ?_⟩
      · rw [txt_fall h.side _ _ _ _ (by rw [hk]; exact hk'.sd hfl), hk, fold_far (fun e => h.side.ne e.symm) _ _ hk', hs0, hs1]
        rfl
      · rw [txt_fall hfl _ _ _ _ (by rw [hk]; exact hk'.sd hfl), hk, hs0, hs1]
        rcases fold_near (st.loose.take k) (pick (1 - j.side) (st.s0, st.s1)) hk' with q | q
        · exact .inl (by rw [q]; rfl)
        · exact .inr (by rw [q]; rfl)
    · have hsd4 : ∀ c ∈ tornL st3.loose (partF keep st3.loose.length).toNat torn, Sd c.side := by
        rw [hm]
        intro c hc
        rcases List.mem_append.1 hc with q | q
        · exact hws.sd hfl c q
        · rw [List.mem_singleton.1 q]; exact h.side
      have f1 : txt (fallF st3 room crash keep torn) j.side = txt st j.side ++ (frame s).take m := by
        rw [txt_fall h.side _ _ _ _ hsd4, hm, foldS_app, fold_far (fun e => h.side.ne e.symm) _ _ hws, hs0, hs1]
        show lb (if j.side = j.side then (if false then _ else pick j.side (st.s0, st.s1) ++ bs ((frame s).take m)) else _) = _
        simp only [if_true, Bool.false_eq_true, if_false, lb_app, lb_bs]
        rfl
      have f2 : txt (fallF st3 room crash keep torn) (1 - j.side) = txt st (1 - j.side) ∨ txt (fallF st3 room crash keep torn) (1 - j.side) = [] := by
        rw [txt_fall hfl _ _ _ _ hsd4, hm, foldS_app, hs0, hs1]
        have : ∀ a, foldS (1 - j.side) [addC j.side (bs ((frame s).take m))] a = a := fun a => by
          show (if j.side = 1 - j.side then _ else a) = a
          rw [if_neg h.side.ne]
        rw [this]
        rcases fold_near st.loose (pick (1 - j.side) (st.s0, st.s1)) hws with q | q
        · exact .inl (by rw [q]; rfl)
        · exact .inr (by rw [q]; rfl)
      cases m with
      | zero =>
        rw [List.take_zero, List.append_nil] at f1
        exact .inl ⟨xs, h.stay rfl rfl f1 f2⟩
      | succ m =>
        have f1 : txt (fallF st3 room crash keep torn) j.side = txt st j.side ++ nl :: (chunk s).take m := f1
        have hlen : ((chunk s).take m).length ≤ (chunk s).length := by rw [List.length_take]; omega
        rcases Nat.lt_or_ge m (chunk s).length with hm2 | hm2
        · left
          have hwn : whole ((chunk s).take m) = none := whole_torn s (by have := (okLine_len hs).1; omega) m hm2
          refine ⟨xs ++ [(chunk s).take m], h.grow ht (take_free hnlc m) (by omega) rfl rfl f1 f2 rfl rfl h.dead ?_ h.ok⟩
          rw [List.filterMap_append, ← h.lines, List.filterMap_cons, hwn]
          simp
        · right
          rw [List.take_of_length_le hm2] at f1
          exact ⟨xs ++ [chunk s], h.grow ht hnlc (by omega) rfl rfl f1 f2 rfl rfl h.dead hwl hokl⟩
  · have e : behindF st j s = (sealOk (putOk st (addC j.side (bs (frame s)))), behindJ j s, 0) := by
      unfold behindF
      simp only
      rw [e2]
      simp only [ne_eq, not_true_eq_false, if_false]
      rw [seal_ok rfl c4]
      rfl
    rw [e]
    refine .ok _ (h.grow ht hnlc (by omega) rfl rfl v1 ?_ rfl rfl h.dead hwl hokl) rfl rfl (by show st.calls + 1 + 1 = _; omega) v1 v2 rfl
    rw [txt_seal, v2]
    exact h.vother
end Go.Proofs.YtepcagakegbjfaaDoor.Jr
/- How much lies on a tape, at most, behind a journal's calls. No program in sight. -/
namespace Go.Proofs.YtepcagakegbjfaaDoor.Jr
open Go Go.Lib
set_option linter.unusedSimpArgs false

structure Mes (st : TapeSt) (B c : Nat) : Prop where
  size : st.s0.size + st.s1.size + mores st.loose ≤ B
  many : st.loose.length ≤ c
  calls0 : 0 ≤ st.calls
  calls1 : st.calls ≤ c
  side : ∀ x ∈ st.loose, Sd x.side
theorem mores_app (a b : List Chg) : mores (a ++ b) = mores a + mores b := by
  induction a with
  | nil => simp [mores]
  | cons c a ih =>
    have e : ∀ m : List Chg, mores (c :: m) = c.more.size + mores m := fun _ => rfl
    rw [List.cons_append, e, e, ih]; omega
theorem mores_take (l : List Chg) (k : Nat) : mores (l.take k) ≤ mores l := by
  have h := mores_app (l.take k) (l.drop k)
  rw [List.take_append_drop] at h
  omega
theorem withF_size (s0 s1 : ByteArray) (side : Int) (wipe : Bool) (more : ByteArray) : (withF s0 s1 side wipe more).1.size + (withF s0 s1 side wipe more).2.size ≤ s0.size + s1.size + more.size := by
  unfold withF
  split <;> cases wipe <;> simp <;> omega
theorem nowF_size (l : List Chg) : ∀ s : ByteArray × ByteArray, (nowF s l).1.size + (nowF s l).2.size ≤ s.1.size + s.2.size + mores l := by
  induction l with
  | nil => intro s; simp [nowF, mores]
  | cons c l ih =>
    intro s
    have h1 := ih (stepF s c)
    have h2 : (stepF s c).1.size + (stepF s c).2.size ≤ s.1.size + s.2.size + c.more.size := withF_size _ _ _ _ _
    have e1 : nowF s (c :: l) = nowF (stepF s c) l := rfl
    have e2 : mores (c :: l) = c.more.size + mores l := rfl
    rw [e1, e2]; omega
theorem Mes.mono {st : TapeSt} {B c B' c' : Nat} (h : Mes st B c) (hB : B ≤ B') (hc : c ≤ c') : Mes st B' c' :=
  ⟨Nat.le_trans h.size hB, Nat.le_trans h.many hc, h.calls0, by have := h.calls1; omega, h.side⟩
theorem Mes.fallen {st : TapeSt} {B c : Nat} (h : Mes st B c) : Mes (fallen st) B (c + 1) :=
  ⟨h.size, Nat.le_trans h.many (by omega), by show 0 ≤ st.calls + 1; have := h.calls0; omega, by show st.calls + 1 ≤ ((c + 1 : Nat) : Int); have := h.calls1; omega, h.side⟩
theorem Mes.put {st : TapeSt} {B c : Nat} (h : Mes st B c) (x : Chg) (hx : Sd x.side) : Mes (putOk st x) (B + x.more.size) (c + 1) := by
  refine ⟨?_, ?_, ?_, ?_, sd_put h.side hx⟩
  · show st.s0.size + st.s1.size + mores (st.loose ++ [x]) ≤ _
    have e : mores [x] = x.more.size := by simp [mores]
    have := h.size
    rw [mores_app, e]; omega
  · show (st.loose ++ [x]).length ≤ _
    have := h.many
    simp; omega
  · show 0 ≤ st.calls + 1; have := h.calls0; omega
  · show st.calls + 1 ≤ ((c + 1 : Nat) : Int); have := h.calls1; omega
theorem Mes.seal {st : TapeSt} {B c : Nat} (h : Mes st B c) : Mes (sealOk st) B (c + 1) := by
  refine ⟨?_, Nat.zero_le _, ?_, ?_, (by intro x hx; cases hx)⟩
  · have := nowF_size st.loose (st.s0, st.s1)
    have h2 := h.size
    show st.now.1.size + st.now.2.size + mores [] ≤ B
    have e : mores [] = 0 := rfl
    have e2 : st.now = nowF (st.s0, st.s1) st.loose := rfl
    rw [e, e2]
    simp only at this
    omega
  · show 0 ≤ st.calls + 1; have := h.calls0; omega
  · show st.calls + 1 ≤ ((c + 1 : Nat) : Int); have := h.calls1; omega
theorem torn_sub (l : List Chg) (kept : Nat) (torn : Int) : mores (tornL l kept torn) ≤ mores l ∧ ∀ x ∈ tornL l kept torn, ∃ y ∈ l, x.side = y.side := by
  rcases torn_cases l kept torn with ⟨k, hk⟩ | ⟨k, c, d, h1, h2, h3⟩
  · rw [hk]
    exact ⟨mores_take l k, fun x hx => ⟨x, List.mem_of_mem_take hx, rfl⟩⟩
  · rw [h3]
    constructor
    · have e := mores_app (l.take k) (l.drop k)
      rw [List.take_append_drop, h1] at e
      have e2 : mores (c :: d) = c.more.size + mores d := rfl
      have e3 : mores [cutMore c (partF torn c.more.size).toNat] = (c.more.extract 0 (partF torn c.more.size).toNat).size := by simp [mores, cutMore]
      have e4 : (c.more.extract 0 (partF torn c.more.size).toNat).size ≤ c.more.size := by simp [ByteArray.size_extract]; omega
      rw [mores_app, e3]; omega
    · intro x hx
      rcases List.mem_append.1 hx with q | q
      · exact ⟨x, List.mem_of_mem_take q, rfl⟩
      · rw [List.mem_singleton.1 q]
        exact ⟨c, List.mem_of_mem_drop (by rw [h1]; exact List.mem_cons_self ..), rfl⟩
theorem Mes.fall {st : TapeSt} {B c : Nat} (h : Mes st B c) (room crash keep torn : Int) : Mes (fallF st room crash keep torn) B 0 := by
  refine ⟨?_, Nat.zero_le _, Int.le_refl 0, Int.le_refl 0, (by intro x hx; cases hx)⟩
  have h1 := nowF_size (tornL st.loose (partF keep st.loose.length).toNat torn) (st.s0, st.s1)
  have h2 := (torn_sub st.loose (partF keep st.loose.length).toNat torn).1
  have h3 := h.size
  show (nowF (st.s0, st.s1) (tornL st.loose (partF keep st.loose.length).toNat torn)).1.size + (nowF (st.s0, st.s1) (tornL st.loose (partF keep st.loose.length).toNat torn)).2.size + mores [] ≤ B
  have e : mores [] = 0 := rfl
  rw [e]
  simp only at h1
  omega
theorem Mes.wipeF {st : TapeSt} {B c : Nat} (h : Mes st B c) {n : Int} (hn : Sd n) (hd : st.down = false) : Mes (wipeF st n).1 B (c + 1) := by
  by_cases hc : st.crash = st.calls + 1
  · rw [wipe_hit hn hd hc]; exact h.fallen
  · rw [wipe_ok hn hd hc]
    have := h.put (wipeC n) hn
    exact this.mono (by show B + 0 ≤ B; omega) (Nat.le_refl _)
theorem Mes.addF {st : TapeSt} {B c : Nat} (h : Mes st B c) {n : Int} {l : List ByteArray} (hn : Sd n) (hd : st.down = false) : Mes (addF st n l).1 (B + (catF l).size) (c + 1) := by
  by_cases hr : st.room < addTot st n (catF l)
  · rw [add_full hn hd hr]; exact h.mono (by omega) (by omega)
  · by_cases hc : st.crash = st.calls + 1
    · rw [add_hit hn hd (by omega) hc]; exact h.fallen.mono (by omega) (Nat.le_refl _)
    · rw [add_ok hn hd (by omega) hc]; exact h.put (addC n (catF l)) hn
theorem Mes.sealF {st : TapeSt} {B c : Nat} (h : Mes st B c) (hd : st.down = false) : Mes (sealF st).1 B (c + 1) := by
  by_cases hc : st.crash = st.calls + 1
  · rw [seal_hit hd hc]; exact h.fallen
  · rw [seal_ok hd hc]; exact h.seal
theorem wipe_down {st : TapeSt} {n : Int} (hn : Sd n) (hd : st.down = false) (h : (wipeF st n).2 = 0) : (wipeF st n).1.down = false := by
  by_cases hc : st.crash = st.calls + 1
  · rw [wipe_hit hn hd hc] at h; cases h
  · rw [wipe_ok hn hd hc]; rfl
theorem add_down {st : TapeSt} {n : Int} {l : List ByteArray} (hn : Sd n) (hd : st.down = false) (h : (addF st n l).2 = 0) : (addF st n l).1.down = false := by
  by_cases hr : st.room < addTot st n (catF l)
  · rw [add_full hn hd hr] at h; cases h
  · by_cases hc : st.crash = st.calls + 1
    · rw [add_hit hn hd (by omega) hc] at h; cases h
    · rw [add_ok hn hd (by omega) hc]; rfl
theorem cat_new (j : Jn) (l : List S) : (catF [bs (headI (j.turn + 1) (frames l).length), bs (frames l)]).size = (newTxt j l).length := by
  rw [catF_two, ← bs_app, bs_size]
  rfl
theorem Mes.anewF {st : TapeSt} {B c : Nat} (h : Mes st B c) {j : Jn} (hs : Sd j.side) (hd : st.down = false) (l : List S) : Mes (anewF st j l).1 (B + (newTxt j l).length) (c + 3) := by
  have h1 := h.wipeF hs.flip hd
  unfold Jr.anewF
  simp only
  split
  · exact h1.mono (by omega) (by omega)
  · rename_i e1
    have d1 := wipe_down hs.flip hd (by simpa using e1)
    have h2 := h1.addF (l := [bs (headI (j.turn + 1) (frames l).length), bs (frames l)]) hs.flip d1
    rw [cat_new] at h2
    split
    · exact h2.mono (by omega) (by omega)
    · rename_i e2
      have d2 := add_down hs.flip d1 (by simpa using e2)
      have h3 := h2.sealF d2
      split
      · exact h3.mono (by omega) (by omega)
      · exact h3.mono (by omega) (by omega)
theorem Mes.behindF {st : TapeSt} {B c : Nat} (h : Mes st B c) {j : Jn} (hs : Sd j.side) (hd : st.down = false) (s : S) : Mes (behindF st j s).1 (B + (frame s).length) (c + 2) := by
  have h2 := h.addF (l := [bs (frame s)]) hs hd
  rw [catF_one, bs_size] at h2
  unfold Jr.behindF
  simp only
  split
  · exact h2.mono (by omega) (by omega)
  · rename_i e2
    have d2 := add_down hs hd (by simpa using e2)
    have h3 := h2.sealF d2
    split
    · exact h3.mono (by omega) (by omega)
    · exact h3.mono (by omega) (by omega)
theorem Mes.txt {st : TapeSt} {B c : Nat} (h : Mes st B c) : (txt st 0).length + (txt st 1).length ≤ B := by
  have := h.size
  show st.s0.size + st.s1.size ≤ B
  omega
theorem Mes.view {st : TapeSt} {B c : Nat} (h : Mes st B c) : (view st 0).length + (view st 1).length ≤ B := by
  have h1 := nowF_size st.loose (st.s0, st.s1)
  have h2 := h.size
  show st.now.1.size + st.now.2.size ≤ B
  have e2 : st.now = nowF (st.s0, st.s1) st.loose := rfl
  rw [e2]
  simp only at h1
  omega
theorem Mes.mine {st : TapeSt} {B c : Nat} (h : Mes st B c) {n : Int} (hn : Sd n) : (Jr.txt st n).length ≤ B := by
  have := h.txt
  rcases hn with q | q <;> subst q <;> omega
theorem Mes.both {st : TapeSt} {B c : Nat} (h : Mes st B c) {n : Int} (hn : Sd n) : (Jr.view st n).length + (Jr.view st (1 - n)).length ≤ B := by
  have := h.view
  rcases hn with q | q <;> subst q
  · have e : (1 : Int) - 0 = 1 := rfl
    rw [e]; omega
  · have e : (1 : Int) - 1 = 0 := rfl
    rw [e]; omega

/-! ### Sizes of heads and frames -/
theorem num_len : ∀ (k n : Nat), n < 10 ^ k → 1 ≤ k → (num n).length ≤ k
  | 0, n, h, hk => absurd hk (by decide)
  | k + 1, n, h, _ => by
    unfold num
    rw [decDigits]
    split
    · simp
    · rename_i h10
      cases k with
      | zero => simp at h; omega
      | succ k =>
        have h1 : n / 10 < 10 ^ (k + 1) := by
          rw [Nat.div_lt_iff_lt_mul (by decide)]
          rw [Nat.pow_succ] at h
          exact h
        have := num_len (k + 1) (n / 10) h1 (by omega)
        unfold num at this
        rw [List.length_append]
        simp
        omega
theorem head_len {t n : Nat} (ht : t < 1000000000000) (hn : n < 1000000000000) : (head t n).length ≤ 26 := by
  unfold head
  have h1 := num_len 12 t (by omega) (by decide)
  have h2 := num_len 12 n (by omega) (by decide)
  simp only [List.length_append, List.length_cons, List.length_nil]
  omega
theorem headI_len {t : Int} {n : Nat} (h0 : 0 ≤ t) (ht : t < 1000000000000) (hn : n < 1000000000000) : (headI t n).length ≤ 26 := by
  obtain ⟨m, rfl⟩ : ∃ m : Nat, t = m := ⟨t.toNat, by omega⟩
  rw [headI_nat]
  exact head_len (by omega) hn
theorem chunk_len {s : S} (h : s.length < 10000) : (chunk s).length ≤ s.length + 5 := by
  unfold chunk
  have := num_len 4 s.length (by omega) (by decide)
  simp only [List.length_append, List.length_cons]
  omega
theorem frame_len {s : S} (h : s.length < 10000) : (frame s).length ≤ s.length + 6 := by
  have := chunk_len h
  unfold frame
  simp only [List.length_cons]
  omega
/-- Of lines, with 8 bytes more for each. -/
def sizeL : List S → Nat
  | [] => 0
  | s :: l => s.length + 8 + sizeL l
theorem sizeL_app (a b : List S) : sizeL (a ++ b) = sizeL a + sizeL b := by
  induction a with
  | nil => simp [sizeL]
  | cons s a ih => simp only [List.cons_append, sizeL, ih]; omega
theorem frames_len : ∀ (l : List S), (∀ s ∈ l, okLine s = true) → (frames l).length ≤ sizeL l
  | [], h => Nat.le_refl 0
  | s :: l, h => by
    have ih := frames_len l (fun x hx => h x (List.mem_cons_of_mem _ hx))
    have h1 := (okLine_len (h s (List.mem_cons_self ..))).1
    have h2 := frame_len (s := s) (by omega)
    show (nl :: (chunk s ++ frames l)).length ≤ s.length + 8 + sizeL l
    unfold frame at h2
    simp only [List.length_cons, List.length_append] at h2 ⊢
    omega
end Go.Proofs.YtepcagakegbjfaaDoor.Jr
/- Save and Note of a journal where there is room, wherever the tape falls. No program in sight. -/
namespace Go.Proofs.YtepcagakegbjfaaDoor.Jr
open Go Go.Lib
set_option linter.unusedSimpArgs false

theorem gate_has {st : TapeSt} {j : Jn} {xs l : List S} (h : Has st j xs) (hl : ∀ s ∈ l, okLine s = true) : gateJ j l = 0 := by
  unfold gateJ
  rw [h.dead, if_neg (by decide), if_pos (List.all_eq_true.2 hl)]
theorem anew_not15 {st : TapeSt} {j : Jn} {xs l : List S} {r : TapeSt × Jn × Int} (h : Anew st j xs l r) (hroom : newLen st j l ≤ st.room) : r.2.2 ≠ 15 := by
  cases h with
  | ok => exact (by decide : (0 : Int) ≠ 15)
  | full _ hf => omega
  | fell => exact (by decide : (16 : Int) ≠ 15)
/-- Save where there is room is 'anew'. -/
theorem save_big {st : TapeSt} {j : Jn} {xs l : List S} (h : Has st j xs) (hl : ∀ s ∈ l, okLine s = true) (ht : j.turn < 999999999999) (hf : (frames l).length < 1000000000000) (hroom : newLen st j l ≤ st.room) :
    saveF st j l = anewF st j l ∧ Anew st j xs l (anewF st j l) := by
  have ha := anew_all h hl ht hf
  refine ⟨?_, ha⟩
  have h15 := anew_not15 ha hroom
  unfold saveF
  rw [gate_has h hl, if_neg (by decide)]
  simp only
  rw [if_pos (.inl h15)]
theorem behind_not15 {st : TapeSt} {j : Jn} {xs : List S} {s : S} {r : TapeSt × Jn × Int} (h : Behind st j xs s r) (hroom : ((txt st j.side).length : Int) + (frame s).length + (view st (1 - j.side)).length ≤ st.room) : r.2.2 ≠ 15 := by
  cases h with
  | ok => exact (by decide : (0 : Int) ≠ 15)
  | full hf => omega
  | fell => exact (by decide : (16 : Int) ≠ 15)
/-- Note where there is room is 'behind', or, the first time, 'anew'. -/
theorem note_big {st : TapeSt} {j : Jn} {xs : List S} {s : S} (h : Has st j xs) (hs : okLine s = true) (ht : j.turn ≠ 0) (hf : (bodyOf xs).length + (chunk s).length + 1 < 1000000000000) (hroom : ((txt st j.side).length : Int) + (frame s).length + (view st (1 - j.side)).length ≤ st.room) :
    noteF st j s = behindF st j s ∧ Behind st j xs s (behindF st j s) := by
  have ha := behind_all h hs ht hf
  refine ⟨?_, ha⟩
  have h15 := behind_not15 ha hroom
  unfold noteF
  rw [gate_has h (l := [s]) (fun x hx => by rw [List.mem_singleton.1 hx]; exact hs), if_neg (by decide), if_neg ht]
  simp only
  rw [if_pos h15]
theorem note_zero {st : TapeSt} {j : Jn} {xs : List S} {s : S} (h : Has st j xs) (hs : okLine s = true) (ht : j.turn = 0) (hf : (frames [s]).length < 1000000000000) :
    noteF st j s = anewF st j [s] ∧ Anew st j xs [s] (anewF st j [s]) := by
  have hl : ∀ x ∈ [s], okLine x = true := fun x hx => by rw [List.mem_singleton.1 hx]; exact hs
  refine ⟨?_, anew_all h hl (by omega) hf⟩
  unfold noteF
  rw [gate_has h hl, if_neg (by decide), if_pos ht]
/-- A new tape's journal. -/
theorem has_new (room crash keep torn : Int) : Has (newSt room crash keep torn) ⟨0, 0, [], false⟩ [] :=
  ⟨(fun c hc => by cases hc), rfl, .inl rfl, rfl, rfl, (fun s hs => by cases hs), (fun x hx => by cases hx), .inr ⟨rfl, by show (readF []).1 = 0; rw [read_nil]⟩, .inl ⟨rfl, rfl, rfl, rfl⟩⟩
end Go.Proofs.YtepcagakegbjfaaDoor.Jr
/- What a call of the journal's comes to, where there is room: told once for Save and Note. -/
namespace Go.Proofs.YtepcagakegbjfaaDoor.Jr
open Go

theorem wipeF_room (st : TapeSt) (n : Int) : (wipeF st n).1.room = st.room := by
  unfold wipeF putF
  split <;> rfl
theorem addF_room (st : TapeSt) (n : Int) (l : List ByteArray) : (addF st n l).1.room = st.room := by
  unfold addF putF
  split
  · split <;> rfl
  · rfl
theorem sealF_room (st : TapeSt) : (sealF st).1.room = st.room := by
  unfold sealF
  split
  · rfl
  · split <;> rfl
theorem anewF_room (st : TapeSt) (j : Jn) (l : List S) : (anewF st j l).1.room = st.room := by
  unfold anewF
  simp only
  split
  · exact wipeF_room ..
  · split
    · rw [addF_room, wipeF_room]
    · split
      · rw [sealF_room, addF_room, wipeF_room]
      · rw [sealF_room, addF_room, wipeF_room]
theorem behindF_room (st : TapeSt) (j : Jn) (s : S) : (behindF st j s).1.room = st.room := by
  unfold behindF
  simp only
  split
  · exact addF_room ..
  · split
    · rw [sealF_room, addF_room]
    · rw [sealF_room, addF_room]
/-- A tape that does not fall. -/
theorem anew_calm {st : TapeSt} {j : Jn} (hs : Sd j.side) (hd : st.down = false) (hc : st.crash = 0) (h0 : 0 ≤ st.calls) (l : List S) : (anewF st j l).2.2 ≠ 16 := by
  unfold anewF
  simp only
  rw [wipe_ok hs.flip hd (by omega)]
  simp only [ne_eq, not_true_eq_false, if_false]
  by_cases hr : (putOk st (wipeC (1 - j.side))).room < addTot (putOk st (wipeC (1 - j.side))) (1 - j.side) (catF [bs (headI (j.turn + 1) (frames l).length), bs (frames l)])
  · rw [add_full hs.flip rfl hr]
    simp
  · have c2 : (putOk st (wipeC (1 - j.side))).crash ≠ (putOk st (wipeC (1 - j.side))).calls + 1 := by
      show st.crash ≠ st.calls + 1 + 1
      omega
    rw [add_ok hs.flip rfl (by omega) c2]
    simp only [not_true_eq_false, if_false]
    rw [seal_ok rfl (by show st.crash ≠ st.calls + 1 + 1 + 1; omega)]
    simp
theorem behind_calm {st : TapeSt} {j : Jn} (hs : Sd j.side) (hd : st.down = false) (hc : st.crash = 0) (h0 : 0 ≤ st.calls) (s : S) : (behindF st j s).2.2 ≠ 16 := by
  unfold behindF
  simp only
  by_cases hr : st.room < addTot st j.side (catF [bs (frame s)])
  · rw [add_full hs hd hr]
    simp
  · rw [add_ok hs hd (by omega) (by omega)]
    simp only [ne_eq, not_true_eq_false, if_false]
    rw [seal_ok rfl (by show st.crash ≠ st.calls + 1 + 1; omega)]
    simp
/-- What a call comes to: done, or the tape fell in it. -/
inductive Out (st st' : TapeSt) (j j' : Jn) (L : List S) (code : Int) : Prop
  | ok (h0 : code = 0) (xs : List S) (h : Has st' j' xs) (hl : j'.lines = L) (ht : j'.turn ≤ j.turn + 1) (ht1 : 1 ≤ j'.turn) (hc : st'.crash = st.crash)
  | fell (h0 : code = 16) (h : Down st' fun s => ∃ j1 xs, Has s j1 xs ∧ (j1.lines = j.lines ∨ j1.lines = L) ∧ j1.turn ≤ j.turn + 1)
theorem anew_out {st : TapeSt} {j : Jn} {xs l : List S} {B c : Nat} (h : Has st j xs) (hM : Mes st B c) (hl : ∀ s ∈ l, okLine s = true) (ht : j.turn ≤ 1000000) (hB : B + 26 + sizeL l ≤ 1000000) (hroom : ((B + 26 + sizeL l : Nat) : Int) ≤ st.room) (r : TapeSt × Jn × Int) (hr : anewF st j l = r) :
    Out st r.1 j r.2.1 l r.2.2 ∧ Mes r.1 (B + 26 + sizeL l) (c + 3) ∧ r.1.room = st.room ∧ r.2.2 ≠ 15 ∧ (st.crash = 0 → r.2.2 = 0) := by
  have hfl := frames_len l hl
  have t0 := h.turn0
  have hh := headI_len (t := j.turn + 1) (n := (frames l).length) (by omega) (by omega) (by omega)
  have hmi := hM.mine h.side
  have hnl : (newTxt j l).length ≤ 26 + sizeL l := by
    unfold newTxt
    rw [List.length_append]
    omega
  have hA := anew_all h hl (by omega) (by omega)
  have h15 := anew_not15 hA (by unfold newLen; omega)
  have hM' := (hM.anewF h.side h.down l).mono (B' := B + 26 + sizeL l) (c' := c + 3) (by omega) (Nat.le_refl _)
  have hrm := anewF_room st j l
  have hcm := fun hc => anew_calm h.side h.down hc hM.calls0 l
  rw [hr] at hA h15 hM' hrm hcm
  refine ⟨?_, hM', hrm, h15, ?_⟩
  · cases hA with
    | ok st' a1 a2 a3 => exact .ok rfl _ a1 rfl (Int.le_refl _) (by show 1 ≤ j.turn + 1; omega) a3
    | full st' a1 => exact absurd rfl h15
    | fell st' j' a1 =>
      refine .fell rfl ⟨a1.1, fun a b c d => ?_⟩
      rcases a1.2 a b c d with q | q
      · exact ⟨j, xs, q, .inl rfl, by omega⟩
      · exact ⟨anewJ j l, l.map chunk, q, .inr rfl, Int.le_refl _⟩
  · intro hc
    have h16 := hcm hc
    cases hA with
    | ok st' => rfl
    | full st' a1 => exact absurd rfl h15
    | fell st' j' a1 => exact absurd rfl h16
theorem has_turn_lines {st : TapeSt} {j : Jn} {xs : List S} (h : Has st j xs) (ht : j.turn = 0) : j.lines = [] := by
  rcases h.mine with ⟨_, h1, _⟩ | ⟨t, n, h1, h2, _⟩
  · rw [h.lines, h1]; rfl
  · omega
theorem mem_down {st : TapeSt} {j j' : Jn} {L : List S} (h : DownE st j j') (hl : j'.lines = L) (ht : j'.turn = j.turn) : Down st fun s => ∃ j1 xs, Has s j1 xs ∧ (j1.lines = j.lines ∨ j1.lines = L) ∧ j1.turn ≤ j.turn + 1 :=
  ⟨h.1, fun a b c d => by
    rcases h.2 a b c d with ⟨xs, q⟩ | ⟨xs, q⟩
    · exact ⟨j, xs, q, .inl rfl, by omega⟩
    · exact ⟨j', xs, q, .inr hl, by omega⟩⟩
theorem behind_out {st : TapeSt} {j : Jn} {xs : List S} {s : S} {B c : Nat} (h : Has st j xs) (hM : Mes st B c) (hs : okLine s = true) (ht1 : j.turn ≠ 0) (ht : j.turn ≤ 1000000) (hB : B + 26 + sizeL [s] ≤ 1000000) (hroom : ((B + 26 + sizeL [s] : Nat) : Int) ≤ st.room) (r : TapeSt × Jn × Int) (hr : behindF st j s = r) :
    Out st r.1 j r.2.1 (j.lines ++ [s]) r.2.2 ∧ Mes r.1 (B + 26 + sizeL [s]) (c + 3) ∧ r.1.room = st.room ∧ r.2.2 ≠ 15 ∧ (st.crash = 0 → r.2.2 = 0) := by
  have hsl := (okLine_len hs).1
  have t0 := h.turn0
  have hch := chunk_len (s := s) (by omega)
  have hfl := frame_len (s := s) (by omega)
  have e1 : sizeL [s] = s.length + 8 := rfl
  have hmi := hM.mine h.side
  have hbo := hM.both h.side
  rw [h.vmine] at hbo
  have hxs : (bodyOf xs).length ≤ B := by
    rcases h.mine with ⟨_, h1, _⟩ | ⟨t, n, h1, h2, h3, h4, h5, h6⟩
    · rw [h1]; exact Nat.zero_le _
    · rw [h6, List.length_append] at hmi
      omega
  have hA := behind_all h hs ht1 (by omega)
  have h15 := behind_not15 hA (by omega)
  have hM' := (hM.behindF h.side h.down s).mono (B' := B + 26 + sizeL [s]) (c' := c + 3) (by omega) (by omega)
  have hrm := behindF_room st j s
  have hcm := fun hc => behind_calm h.side h.down hc hM.calls0 s
  rw [hr] at hA h15 hM' hrm hcm
  refine ⟨?_, hM', hrm, h15, ?_⟩
  · cases hA with
    | ok st' a1 a2 a3 => exact .ok rfl _ a1 rfl (by show j.turn ≤ _; omega) (by show 1 ≤ j.turn; omega) a3
    | full a1 => exact absurd rfl h15
    | fell st' j' a1 => exact .fell rfl (mem_down a1 rfl rfl)
  · intro hc
    have h16 := hcm hc
    cases hA with
    | ok st' => rfl
    | full a1 => exact absurd rfl h15
    | fell st' j' a1 => exact absurd rfl h16
end Go.Proofs.YtepcagakegbjfaaDoor.Jr
