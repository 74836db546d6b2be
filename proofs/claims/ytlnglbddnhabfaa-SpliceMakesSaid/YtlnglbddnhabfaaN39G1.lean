/- Layer 3: bytes as they are handed over, and cursors: the walk. -/
import Derived.Test.YtlnglbddnhabfaaF49
namespace Go.Proofs.TryN
open Go Go.AL Go.Proofs

/-! Layer 3: bytes as they are handed over, and cursors: the walk. -/

/-- Bytes as they are handed over. -/
def asB (v : AV) (xs : List Int) : Prop := (v = .snil ∧ xs = []) ∨ (v = .semp ∧ xs = []) ∨ (v = .ri .u8 xs ∧ xs ≠ []) ∨ (v = .emp ∧ xs = [])

theorem clone_nil : CallsF Try.prog 51 [.snil] [] .snil [] := by
  refine e51 ?_
  conv => whnf
  exact ⟨[], [], rfl, rfl, rfl⟩
theorem clone_semp : CallsF Try.prog 51 [.semp] [] .semp [] := by
  refine e51 ?_
  conv => whnf
  exact ⟨[], [], rfl, rfl, rfl⟩
theorem clone_emp : CallsF Try.prog 51 [.emp] [] .semp [] := by
  refine e51 ?_
  conv => whnf
  exact ⟨[], [], rfl, rfl, rfl⟩
theorem cloneF_spec (x : Int) (xs : List Int) (hb : xs.length < 4294967290) : CallsF Try.prog 51 [.ri .u8 (x :: xs)] [] (.ri .u8 (x :: xs)) [] := by
  refine e51 ?_
  conv => whnf
  refine need_of ((decide_eq_true (by omega))) ?_
  conv => whnf
  refine ⟨[], [0], rfl, ?_, rfl⟩
  show AV.ri .u8 (((x :: xs).drop 0).take (xs.length + 1)) = _
  rw [List.drop_zero, List.take_of_length_le (by simp)]
theorem clone_spec {v : AV} {xs : List Int} (h : asB v xs) (hb : xs.length < 4294967290) : CallsF Try.prog 51 [v] [] (.ri .u8 xs) [] := by
  rcases h with ⟨rfl, rfl⟩ | ⟨rfl, rfl⟩ | ⟨rfl, h⟩ | ⟨rfl, rfl⟩
  · exact CallsF.le (CallsA.mono clone_nil fun r h' ⟨a, b⟩ => ⟨by rw [a]; exact AV.le.snil .u8, b⟩)
  · exact CallsF.le (CallsA.mono clone_semp fun r h' ⟨a, b⟩ => ⟨by rw [a]; exact AV.le.semp .u8, b⟩)
  · cases xs with
    | nil => exact absurd rfl h
    | cons x xs => exact cloneF_spec x xs (by simp at hb; omega)
  · exact CallsF.le (CallsA.mono clone_emp fun r h' ⟨a, b⟩ => ⟨by rw [a]; exact AV.le.semp .u8, b⟩)
/-- Frozen bytes, empty or not. -/
theorem cloneR_spec (xs : List Int) (hb : xs.length < 4294967290) : CallsF Try.prog 51 [.ri .u8 xs] [] (.ri .u8 xs) [] := by
  cases xs with
  | nil => exact CallsA.empty (pre := []) (post := []) (clone_spec (.inl ⟨rfl, rfl⟩) (by simp)) (clone_spec (.inr (.inr (.inr ⟨rfl, rfl⟩))) (by simp))
  | cons x xs => exact cloneF_spec x xs (by simp at hb; omega)

/-- A cursor's cells. -/
def cur (bs : List Int) (p : Nat) : Option ABlk := some (.box [.ri .u8 bs, iv p])

theorem cnew_spec (xs : List Int) (hb : xs.length < 4294967290) : CallsF Try.prog 29 [.ri .u8 xs] [] (.bp 0 0) [cur xs 0] := by
  refine e29 ?_
  conv => whnf
  refine CallsF.call [] [] (cloneR_spec xs hb) rfl rfl rfl rfl rfl (.inl rfl) ?_
  conv => whnf
  exact ⟨[0], [], rfl, rfl, rfl⟩

theorem cleft_nil : CallsF Try.prog 70 [.pnil] [] (iv 0) [] := by
  refine e70 ?_
  conv => whnf
  exact ⟨[], [], rfl, rfl, rfl⟩
theorem cleft_spec (bs : List Int) (hb : bs.length < 4294967290) (p : Nat) (hp : p ≤ bs.length) : CallsF Try.prog 70 [.bp 0 0] [cur bs p] (iv (bs.length - p : Nat)) [cur bs p] := by
  refine e70 ?_
  conv => whnf
  have e : IntKind.wrap .i64 ((bs.length : Int) - (p : Int)) = ((bs.length - p : Nat) : Int) := by rw [wrap_id (by omega) (by omega)]; omega
  rw [e]
  exact ⟨[], [], rfl, rfl, rfl⟩

/-- The next n of the bytes, or why not. -/
theorem cnext_no (bs : List Int) (hb : bs.length < 4294967290) (p : Nat) (hp : p ≤ bs.length) (n : Int) (hn : n < 0 ∨ (bs.length - p : Nat) < n) : CallsF Try.prog 52 [.bp 0 0, iv n] [cur bs p] (.tup [.snil, .bool false]) [cur bs p] := by
  refine e52 ?_
  conv => whnf
  refine ifB_of (fun h1 => ?_) (fun h1 => ?_)
  · conv => whnf
    exact ⟨[], [], rfl, rfl, rfl⟩
  have h1 := of_decide_eq_false h1
  conv => whnf
  refine CallsF.call [0] [] (cleft_spec bs hb p hp) rfl rfl rfl rfl rfl (.inl rfl) ?_
  conv => whnf
  refine ifB_of (fun h2 => ?_) (fun h2 => ?_)
  · conv => whnf
    exact ⟨[], [], rfl, rfl, rfl⟩
  have h2 := of_decide_eq_false h2
  omega

theorem cnext_zero (bs : List Int) (hb : bs.length < 4294967290) (p : Nat) (hp : p ≤ bs.length) : CallsF Try.prog 52 [.bp 0 0, iv 0] [cur bs p] (.tup [.snil, .bool true]) [cur bs p] := by
  refine e52 ?_
  conv => whnf
  refine CallsF.call [0] [] (cleft_spec bs hb p hp) rfl rfl rfl rfl rfl (.inl rfl) ?_
  conv => whnf
  exact ⟨[], [], rfl, rfl, rfl⟩

theorem cnext_spec (bs : List Int) (hb : bs.length < 4294967290) (p : Nat) (n : Nat) (hn : 0 < n) (hp : p + n ≤ bs.length) : CallsF Try.prog 52 [.bp 0 0, iv n] [cur bs p] (.tup [.ri .u8 ((bs.drop p).take n), .bool true]) [cur bs (p + n)] := by
  have e1 : IntKind.wrap .i64 ((p : Int) + (n : Int)) = ((p + n : Nat) : Int) := by rw [wrap_id (by omega) (by omega)]; omega
  have e2 : IntKind.wrap .i64 (((p + n : Nat) : Int) - (n : Int)) = (p : Int) := by rw [wrap_id (by omega) (by omega)]; omega
  have hn0 : ((n : Int) == 0) = false := beq_eq_false_iff_ne.2 (by omega)
  refine e52 ?_
  conv => whnf
  refine CallsF.call [0] [] (cleft_spec bs hb p (by omega)) rfl rfl rfl rfl rfl (.inl rfl) ?_
  conv => whnf
  refine ifB_of (fun h2 => ?_) (fun h2 => ?_)
  · have h2 := of_decide_eq_true h2
    omega
  conv => whnf
  rw [hn0]
  conv => whnf
  rw [e1]
  conv => whnf
  rw [e2]
  refine need_of ((decide_eq_true ⟨by omega, by omega, by omega, by omega⟩)) ?_
  conv => whnf
  refine ⟨[], [], rfl, ?_, rfl⟩
  show AV.tup [AV.ri .u8 ((bs.drop p).take (p + n - p)), AV.bool true] = _
  rw [Nat.add_sub_cancel_left]

theorem inc_nat (n : Nat) (h : n < 9223372036854775807) : IntKind.wrap .i64 ((n : Int) + 1) = ((n + 1 : Nat) : Int) := by rw [wrap_id (by omega) (by omega)]; rfl

/-- Bytes, each of eight bits. -/
def okB (bs : List Int) : Prop := ∀ b ∈ bs, 0 ≤ b ∧ b ≤ 255

/-- The number of bytes, the first one the greatest. -/
def numB (xs : List Int) : Int := xs.foldl (fun v x => 256 * v + x) 0

theorem numB_snoc (xs : List Int) (x : Int) : numB (xs ++ [x]) = 256 * numB xs + x := by simp [numB]

theorem numB_in (xs : List Int) (h : okB xs) : ∀ i, i ≤ xs.length → 0 ≤ numB (xs.take i) ∧ numB (xs.take i) < 256 ^ i
  | 0, _ => by simp [numB]
  | i + 1, hi => by
    obtain ⟨h1, h2⟩ := numB_in xs h i (by omega)
    have h3 := h xs[i] (List.getElem_mem (by omega))
    rw [List.take_succ_eq_append_getElem (by omega), numB_snoc, Int.pow_succ]
    omega

theorem or8 {v x : Int} (h0 : 0 ≤ v) (h1 : v < 16777216) (h2 : 0 ≤ x) (h3 : x ≤ 255) : IntKind.wrap .i64 ((BitVec.ofInt IntKind.i64.bits (IntKind.wrap .i64 (v * 2 ^ min (Int.toNat 8) IntKind.i64.bits)) ||| BitVec.ofInt IntKind.i64.bits (IntKind.wrap .i64 x)).toNat : Int) = 256 * v + x := by
  obtain ⟨V, rfl⟩ : ∃ V : Nat, v = V := ⟨v.toNat, by omega⟩
  obtain ⟨X, rfl⟩ : ∃ X : Nat, x = X := ⟨x.toNat, by omega⟩
  have e : min (Int.toNat 8) IntKind.i64.bits = 8 := by rfl
  rw [e, wrap_id (n := (V : Int) * 2 ^ 8) (by omega) (by omega), wrap_id (n := (X : Int)) (by omega) (by omega)]
  have e1 : (BitVec.ofInt IntKind.i64.bits ((V : Int) * 2 ^ 8)).toNat = V <<< 8 := by
    rw [BitVec.toNat_ofInt, Nat.shiftLeft_eq]
    show (((V : Int) * 2 ^ 8) % (2 ^ 64 : Nat)).toNat = _
    omega
  have e2 : (BitVec.ofInt IntKind.i64.bits (X : Int)).toNat = X := by
    rw [BitVec.toNat_ofInt]
    show (((X : Int)) % (2 ^ 64 : Nat)).toNat = _
    omega
  rw [BitVec.toNat_or, e1, e2, ← Nat.shiftLeft_add_eq_or_of_lt (by omega), Nat.shiftLeft_eq, wrap_id (by omega) (by omega)]
  omega

set_option maxRecDepth 10000 in
theorem number_spec (xs : List Int) (h : okB xs) (hl : xs.length ≤ 4) : CallsF Try.prog 53 [.ri .u8 xs] [] (iv (numB xs)) [] := by
  refine e53 ?_
  conv => whnf
  refine LoopA.inv (fun m st => ∃ i : Nat, m + i = xs.length ∧ st = ⟨[(3, iv (numB (xs.take i))), (6, .ri .u8 xs), (7, iv (xs.length : Nat)), (8, iv i)], [], 0, 0⟩) xs.length [3, 6, 7, 8] [] [] (by rfl) ?_ ?_
  · conv => whnf
    exact ⟨0, rfl, rfl⟩
  rintro m st ⟨i, hm, rfl⟩
  conv => whnf
  refine ifB_of (fun h1 => ?_) (fun h1 => ?_)
  · have h1 : i < xs.length := by have := of_decide_eq_true h1; omega
    conv => whnf
    refine need_of ((decide_eq_true ⟨Int.natCast_nonneg i, by omega⟩)) ?_
    conv => whnf
    obtain ⟨n1, n2⟩ := numB_in xs h i (by omega)
    have n3 : (256 : Int) ^ i ≤ 256 ^ 3 := by
      have hh : i = 0 ∨ i = 1 ∨ i = 2 ∨ i = 3 := by omega
      rcases hh with hh | hh | hh | hh <;> rw [hh] <;> decide
    have hx := h xs[i] (List.getElem_mem h1)
    have e : xs.getD (i : Int).toNat 0 = xs[i] := by
      rw [Int.toNat_natCast, List.getD_eq_getElem?_getD, List.getElem?_eq_getElem h1]; rfl
    rw [e, or8 n1 (by omega) hx.1 hx.2, ← numB_snoc, ← List.take_succ_eq_append_getElem h1, inc_nat i (by omega)]
    refine ⟨(xs.length - (i + 1)), [3, 6, 7, 8], [], [], by omega, rfl, ?_⟩
    conv => whnf
    exact ⟨i + 1, by omega, rfl⟩
  have h1 : i = xs.length := by have := of_decide_eq_false h1; omega
  rw [h1, List.take_length]
  conv => whnf
  exact ⟨[], [], rfl, rfl, rfl⟩

theorem okB_part {bs : List Int} (h : okB bs) (p n : Nat) : okB ((bs.drop p).take n) := fun b hb => h b (List.mem_of_mem_drop (List.mem_of_mem_take hb))

theorem word_spec (bs : List Int) (h : okB bs) (hb : bs.length < 4294967290) (p : Nat) (hp : p + 4 ≤ bs.length) : CallsF Try.prog 30 [.bp 0 0] [cur bs p] (.tup [iv (numB ((bs.drop p).take 4)), .bool true]) [cur bs (p + 4)] := by
  refine e30 ?_
  conv => whnf
  refine CallsF.call [0] [] (cnext_spec bs hb p 4 (by omega) hp) rfl rfl rfl rfl rfl (.inl rfl) ?_
  conv => whnf
  refine CallsF.call [] [] (number_spec _ (okB_part h p 4) (by rw [List.length_take]; omega)) rfl rfl rfl rfl rfl (.inl rfl) ?_
  conv => whnf
  exact ⟨[], [], rfl, rfl, rfl⟩
theorem byte_spec (bs : List Int) (h : okB bs) (hb : bs.length < 4294967290) (p : Nat) (hp : p + 1 ≤ bs.length) : CallsF Try.prog 83 [.bp 0 0] [cur bs p] (.tup [iv (numB ((bs.drop p).take 1)), .bool true]) [cur bs (p + 1)] := by
  refine e83 ?_
  conv => whnf
  refine CallsF.call [0] [] (cnext_spec bs hb p 1 (by omega) hp) rfl rfl rfl rfl rfl (.inl rfl) ?_
  conv => whnf
  refine CallsF.call [] [] (number_spec _ (okB_part h p 1) (by rw [List.length_take]; omega)) rfl rfl rfl rfl rfl (.inl rfl) ?_
  conv => whnf
  exact ⟨[], [], rfl, rfl, rfl⟩

theorem take_spec (bs : List Int) (hb : bs.length < 4294967290) (p n : Nat) (hn : 0 < n) (hp : p + n ≤ bs.length) : CallsF Try.prog 77 [.bp 0 0, iv n] [cur bs p] (.tup [.ri .u8 ((bs.drop p).take n), .bool true]) [cur bs (p + n)] := by
  refine e77 ?_
  conv => whnf
  refine CallsF.call [0] [] (cnext_spec bs hb p n hn hp) rfl rfl rfl rfl rfl (.inl rfl) ?_
  conv => whnf
  refine CallsF.call [] [] (cloneR_spec ((bs.drop p).take n) (by rw [List.length_take]; omega)) rfl rfl rfl rfl rfl (.inl rfl) ?_
  conv => whnf
  exact ⟨[], [], rfl, rfl, rfl⟩
theorem take_no (bs : List Int) (hb : bs.length < 4294967290) (p : Nat) (hp : p ≤ bs.length) (n : Int) (hn : n < 0 ∨ (bs.length - p : Nat) < n) : CallsF Try.prog 77 [.bp 0 0, iv n] [cur bs p] (.tup [.snil, .bool false]) [cur bs p] := by
  refine e77 ?_
  conv => whnf
  refine CallsF.call [0] [] (cnext_no bs hb p hp n hn) rfl rfl rfl rfl rfl (.inl rfl) ?_
  conv => whnf
  refine CallsF.call [] [] clone_nil rfl rfl rfl rfl rfl (.inl rfl) ?_
  conv => whnf
  exact ⟨[], [], rfl, rfl, rfl⟩


/-! Layer 27: a unit's head: the walk. -/

/-- A picture's code? -/
def isP (c : Int) : Bool := (decide (8 ≤ c) && decide (c ≤ 10)) || (decide (12 ≤ c) && decide (c ≤ 14))
def picV (c : Int) : AV := match isP c with | true => .tup [iv (if 12 ≤ c then c - 12 else c - 8), .bool (decide (12 ≤ c)), .bool true] | false => .tup [iv 0, .bool false, .bool false]

def andI (c m : Int) : Int := IntKind.wrap .i64 ((BitVec.ofInt IntKind.i64.bits c &&& BitVec.ofInt IntKind.i64.bits m).toNat : Int)
def andN (c m : Int) : Int := IntKind.wrap .i64 ((BitVec.ofInt IntKind.i64.bits c &&& ~~~BitVec.ofInt IntKind.i64.bits m).toNat : Int)

theorem pic_key : ∀ c : Fin 256, 0 ≤ andN (c.val : Int) 12 ∧ (isP (c.val : Int) = true → andI (c.val : Int) 8 ≠ 0 ∧ andN (c.val : Int) 12 ≤ 2 ∧ andN (c.val : Int) 12 = (if 12 ≤ (c.val : Int) then (c.val : Int) - 12 else (c.val : Int) - 8) ∧ (andI (c.val : Int) 4 != 0) = decide (12 ≤ (c.val : Int))) ∧ (isP (c.val : Int) = false → andI (c.val : Int) 8 = 0 ∨ 2 < andN (c.val : Int) 12) := by decide +kernel

theorem pic_spec (c : Int) (hc : 0 ≤ c ∧ c ≤ 255) : CallsF Try.prog 54 [iv c] [] (picV c) [] := by
  obtain ⟨n, rfl⟩ : ∃ n : Nat, c = n := ⟨c.toNat, by omega⟩
  have key := pic_key ⟨n, by omega⟩
  simp only at key
  refine e54 ?_
  conv => whnf
  obtain ⟨A, hA⟩ : ∃ A, andI n 8 = A := ⟨_, rfl⟩
  obtain ⟨B, hB⟩ : ∃ B, andN n 12 = B := ⟨_, rfl⟩
  obtain ⟨C, hC⟩ : ∃ C, andI n 4 = C := ⟨_, rfl⟩
  rw [hA, hB, hC] at key
  obtain ⟨k0, k1, k2⟩ := key
  unfold andI at hA hC
  unfold andN at hB
  rw [hA, hB]
  refine ifB_of (fun h1 => ?_) (fun h1 => ?_)
  · have h1 : A = 0 := by simpa using h1
    have hp : isP n = false := by
      cases hh : isP n
      · rfl
      · exact absurd h1 (k1 hh).1
    conv => whnf
    unfold picV
    rw [hp]
    exact ⟨[], [], rfl, rfl, rfl⟩
  have h1 : A ≠ 0 := by simpa using h1
  conv => whnf
  refine ifB_of (fun h2 => ?_) (fun h2 => ?_)
  · have h2 := of_decide_eq_true h2
    omega
  conv => whnf
  refine ifB_of (fun h3 => ?_) (fun h3 => ?_)
  · have h3 := of_decide_eq_true h3
    have hp : isP n = false := by
      cases hh : isP n
      · rfl
      · have := (k1 hh).2.1; omega
    conv => whnf
    unfold picV
    rw [hp]
    exact ⟨[], [], rfl, rfl, rfl⟩
  have h3 := of_decide_eq_false h3
  have hp : isP n = true := by
    cases hh : isP n
    · rcases k2 hh with h | h
      · exact absurd h h1
      · omega
    · rfl
  obtain ⟨_, _, k3, k4⟩ := k1 hp
  conv => whnf
  rw [hC, k4]
  unfold picV
  rw [hp, ← k3]
  exact ⟨[], [], rfl, rfl, rfl⟩

/-- A code that there is? -/
def knownB (c : Int) : Bool := (c == 0) || (c == 16) || (c == 32) || (c == 48) || isP c

theorem known_spec (c : Int) (hc : 0 ≤ c ∧ c ≤ 255) : CallsF Try.prog 56 [iv c] [] (.bool (knownB c)) [] := by
  have kp := pic_spec c hc
  refine e56 ?_
  conv => whnf
  refine ifB_of (fun h1 => ?_) (fun h1 => ?_)
  · rw [h1]
    conv => whnf
    rw [show knownB c = true by unfold knownB; rw [h1]; simp]
    exact ⟨[], [], rfl, rfl, rfl⟩
  conv => whnf
  refine ifB_of (fun h2 => ?_) (fun h2 => ?_)
  · rw [h2]
    conv => whnf
    rw [show knownB c = true by unfold knownB; rw [h2]; simp]
    exact ⟨[], [], rfl, rfl, rfl⟩
  conv => whnf
  refine ifB_of (fun h3 => ?_) (fun h3 => ?_)
  · rw [h3]
    conv => whnf
    rw [show knownB c = true by unfold knownB; rw [h3]; simp]
    exact ⟨[], [], rfl, rfl, rfl⟩
  conv => whnf
  refine ifB_of (fun h4 => ?_) (fun h4 => ?_)
  · rw [h4]
    conv => whnf
    rw [show knownB c = true by unfold knownB; rw [h4]; simp]
    exact ⟨[], [], rfl, rfl, rfl⟩
  rw [h4]
  conv => whnf
  have hk : knownB c = isP c := by unfold knownB; rw [h1, h2, h3, h4]; rfl
  rw [hk]
  unfold picV at kp
  cases hp : isP c
  · rw [hp] at kp
    refine CallsF.call [] [] kp rfl rfl rfl rfl rfl (.inl rfl) ?_
    conv => whnf
    exact ⟨[], [], rfl, rfl, rfl⟩
  · rw [hp] at kp
    refine CallsF.call [] [] kp rfl rfl rfl rfl rfl (.inl rfl) ?_
    conv => whnf
    exact ⟨[], [], rfl, rfl, rfl⟩

/-- What is wrong with a head, behind a unit of a size. -/
def chk (code next prev size : Int) : Int := if knownB code = false then 272 else if prev ≠ size then 271 else if code = 16 ∧ next ≠ 0 then 271 else if code ≠ 16 ∧ next < 13 then 271 else 0

theorem check_spec (code next prev size : Int) (hc : 0 ≤ code ∧ code ≤ 255) : CallsF Try.prog 82 [.agg [iv code, iv next, iv prev], iv size] [] (iv (chk code next prev size)) [] := by
  have kk := known_spec code hc
  refine e82 ?_
  conv => whnf
  refine CallsF.call [] [] kk rfl rfl rfl rfl rfl (.inl rfl) ?_
  conv => whnf
  unfold chk
  cases hk : knownB code
  · conv => whnf
    exact ⟨[], [], rfl, rfl, rfl⟩
  conv => whnf
  refine ifB_of (fun h1 => ?_) (fun h1 => ?_)
  · conv => whnf
    rw [if_neg (by simp), if_pos (by simpa using h1)]
    exact ⟨[], [], rfl, rfl, rfl⟩
  have h1 : prev = size := by simpa using h1
  rw [if_neg (by simp), if_neg (by simpa using h1)]
  by_cases c16 : code = 16
  · subst c16
    rw [if_neg (show ¬ ((16 : Int) ≠ 16 ∧ next < 13) by simp)]
    conv => whnf
    refine ifB_of (fun h2 => ?_) (fun h2 => ?_)
    · rw [h2]
      conv => whnf
      rw [if_pos ⟨rfl, by simpa using h2⟩]
      exact ⟨[], [], rfl, rfl, rfl⟩
    · rw [h2]
      conv => whnf
      rw [if_neg (fun h => h.2 (by simpa using h2))]
      exact ⟨[], [], rfl, rfl, rfl⟩
  · have e : (code == 16) = false := beq_eq_false_iff_ne.2 c16
    have e' : (code != 16) = true := by simp [c16]
    rw [if_neg (fun h => c16 h.1)]
    conv => whnf
    rw [e]
    conv => whnf
    rw [e']
    conv => whnf
    refine ifB_of (fun h3 => ?_) (fun h3 => ?_)
    · have h3' := of_decide_eq_true h3
      rw [h3]
      conv => whnf
      rw [if_pos ⟨c16, h3'⟩]
      exact ⟨[], [], rfl, rfl, rfl⟩
    · have h3' := of_decide_eq_false h3
      rw [h3]
      conv => whnf
      rw [if_neg (fun h => h3' h.2)]
      exact ⟨[], [], rfl, rfl, rfl⟩


/-! Layer 27: a unit is read: the walk. -/

/-- A head's numbers. -/
def hCode (xs : List Int) : Int := numB (((xs.drop 4).drop 0).take 1)
def hNext (xs : List Int) : Int := numB (((xs.drop 4).drop 1).take 4)
def hPrev (xs : List Int) : Int := numB (((xs.drop 4).drop 5).take 4)

theorem str_inj : ∀ {a b : List Int}, okB a → okB b → (a.map fun n => UInt8.ofNat n.toNat) = (b.map fun n => UInt8.ofNat n.toNat) → a = b
  | [], [], _, _, _ => rfl
  | [], _ :: _, _, _, h => by cases h
  | _ :: _, [], _, _, h => by cases h
  | x :: a, y :: b, ha, hb, h => by
    simp only [List.map_cons, List.cons.injEq] at h
    have hx := ha x (by simp)
    have hy := hb y (by simp)
    have h1 := congrArg UInt8.toNat h.1
    rw [UInt8.toNat_ofNat', UInt8.toNat_ofNat'] at h1
    have : x = y := by omega
    rw [this, str_inj (fun b hb' => ha b (by simp [hb'])) (fun c hc => hb c (by simp [hc])) h.2]

theorem str_beq (a b : List Int) (ha : okB a) (hb : okB b) : (strOfNums a == strOfNums b) = decide (a = b) := by
  by_cases h : a = b
  · subst h
    rw [decide_eq_true rfl]
    show ((strOfNums a).data == (strOfNums a).data) = true
    exact beq_self_eq_true _
  · rw [decide_eq_false h]
    refine Bool.eq_false_iff.2 fun hh => h ?_
    have hh : ((strOfNums a).data == (strOfNums b).data) = true := hh
    have := congrArg Array.toList (eq_of_beq hh)
    exact str_inj ha hb (by simpa [strOfNums] using this)

theorem okB_take {bs : List Int} (h : okB bs) (n : Nat) : okB (bs.take n) := fun b hb => h b (List.mem_of_mem_take hb)
theorem okB_drop {bs : List Int} (h : okB bs) (n : Nat) : okB (bs.drop n) := fun b hb => h b (List.mem_of_mem_drop hb)

set_option maxRecDepth 10000 in
theorem read_spec (xs : List Int) (h : okB xs) (hl : xs.length = 13) : CallsF Try.prog 81 [.ri .u8 xs] [] (if xs.take 4 = [66, 66, 67, 68] then .tup [.agg [iv (hCode xs), iv (hNext xs), iv (hPrev xs)], iv 0] else .tup [.agg [iv 0, iv 0, iv 0], iv 270]) [] := by
  refine e81 ?_
  conv => whnf
  refine need_of ((decide_eq_true ⟨by omega, by omega, by omega⟩)) ?_
  conv => whnf
  have em : (strOfNums (List.take (Int.toNat 4 - Int.toNat 0) (List.drop (Int.toNat 0) xs)) == { data := #[66, 66, 67, 68] }) = decide (xs.take 4 = [66, 66, 67, 68]) :=
    str_beq (xs.take 4) [66, 66, 67, 68] (okB_take h 4) (by intro b hb; simp at hb; omega)
  rw [em]
  by_cases hm : xs.take 4 = [66, 66, 67, 68]
  · rw [decide_eq_true hm, if_pos hm]
    conv => whnf
    refine need_of ((decide_eq_true ⟨by omega, by omega, by omega⟩)) ?_
    conv => whnf
    have et : List.take (((xs.length : Int)).toNat - Int.toNat 4) (List.drop (Int.toNat 4) xs) = xs.drop 4 := by
      show (xs.drop 4).take (xs.length - 4) = _
      rw [List.take_of_length_le (by simp)]
    have hyl : (xs.drop 4).length = 9 := by rw [List.length_drop]; omega
    have hy := okB_drop h 4
    rw [et]
    unfold hCode hNext hPrev
    generalize xs.drop 4 = ys at *
    refine CallsF.call [] [] (cnew_spec ys (by omega)) rfl rfl rfl rfl rfl (.inl rfl) ?_
    conv => whnf
    refine CallsF.call [1] [] (byte_spec ys hy (by omega) 0 (by omega)) rfl rfl rfl rfl rfl (.inl rfl) ?_
    conv => whnf
    refine CallsF.call [1] [] (word_spec ys hy (by omega) 1 (by omega)) rfl rfl rfl rfl rfl (.inl rfl) ?_
    conv => whnf
    refine CallsF.call [1] [] (word_spec ys hy (by omega) 5 (by omega)) rfl rfl rfl rfl rfl (.inl rfl) ?_
    conv => whnf
    exact ⟨[], [], rfl, rfl, rfl⟩
  · rw [decide_eq_false hm, if_neg hm]
    conv => whnf
    exact ⟨[], [], rfl, rfl, rfl⟩


/-! Layer 27: the next unit: the walk. -/

/-- What a walker has, ahead of the unit at p behind one of a size. -/
def wk (size : Int) (ended : Bool) : Option ABlk := some (.box [.bp 1 0, iv size, .bool ended])

/-- The next head's bytes. -/
def hd (bs : List Int) (p : Nat) : List Int := (bs.drop p).take 13
/-- How long the next unit is. -/
def unitN (bs : List Int) (p : Nat) : Int := if 13 > hNext (hd bs p) then 13 else hNext (hd bs p)
/-- What is wrong with the next unit; nought: nothing. -/
def lookE (bs : List Int) (p : Nat) (size : Int) : Int :=
  if bs.length - p < 13 then 30 else if (hd bs p).take 4 ≠ [66, 66, 67, 68] then 270
  else if chk (hCode (hd bs p)) (hNext (hd bs p)) (hPrev (hd bs p)) size ≠ 0 then chk (hCode (hd bs p)) (hNext (hd bs p)) (hPrev (hd bs p)) size
  else if unitN bs p > ((bs.length - p : Nat) : Int) then 30 else 0
def lookV (bs : List Int) (p : Nat) (size : Int) : AV :=
  if lookE bs p size = 0 then .tup [.agg [iv (hCode (hd bs p)), iv (hNext (hd bs p)), iv (hPrev (hd bs p))], iv (unitN bs p), iv 0] else .tup [.agg [iv 0, iv 0, iv 0], iv 0, iv (lookE bs p size)]

theorem numB_one {ys : List Int} (h : okB ys) (hl : ys.length ≤ 1) : 0 ≤ numB ys ∧ numB ys ≤ 255 := by
  match ys, hl with
  | [], _ => simp [numB]
  | [x], _ => have := h x (by simp); simp [numB]; omega

theorem hCode_in {xs : List Int} (h : okB xs) : 0 ≤ hCode xs ∧ hCode xs ≤ 255 := numB_one (okB_take (okB_drop (okB_drop h 4) 0) 1) (by rw [List.length_take]; omega)

theorem look_end (bs : List Int) (p : Nat) (size : Int) : CallsF Try.prog 76 [.bp 0 0] [wk size true, cur bs p] (.tup [.agg [iv 0, iv 0, iv 0], iv 0, iv 272]) [wk size true, cur bs p] := by
  refine e76 ?_
  conv => whnf
  exact ⟨[], [], rfl, rfl, rfl⟩

set_option maxRecDepth 10000 in
set_option maxHeartbeats 1000000 in
theorem look_spec (bs : List Int) (h : okB bs) (hb : bs.length < 4294967290) (p : Nat) (hp : p ≤ bs.length) (size : Int) : CallsF Try.prog 76 [.bp 0 0] [wk size false, cur bs p] (lookV bs p size) [wk size false, cur bs p] := by
  have hx : okB (hd bs p) := okB_take (okB_drop h p) 13
  refine e76 ?_
  conv => whnf
  by_cases h1 : bs.length - p < 13
  · have e : lookE bs p size = 30 := by unfold lookE; rw [if_pos h1]
    unfold lookV
    rw [e, if_neg (by decide)]
    refine CallsF.call [3] [] (take_no bs hb p hp 13 (by omega)) rfl rfl rfl rfl rfl (.inl rfl) ?_
    conv => whnf
    exact ⟨[], [], rfl, rfl, rfl⟩
  have hxl : (hd bs p).length = 13 := by unfold hd; rw [List.length_take, List.length_drop]; omega
  have k1 := take_spec bs hb p 13 (by omega) (by omega)
  have k2 := read_spec (hd bs p) hx hxl
  have kc := check_spec (hCode (hd bs p)) (hNext (hd bs p)) (hPrev (hd bs p)) size (hCode_in hx)
  refine CallsF.call [3] [] k1 rfl rfl rfl rfl rfl (.inl rfl) ?_
  conv => whnf
  have kl := cleft_spec bs hb p hp
  unfold lookV
  by_cases hm : (hd bs p).take 4 = [66, 66, 67, 68]
  · rw [if_pos hm] at k2
    have e : lookE bs p size = if chk (hCode (hd bs p)) (hNext (hd bs p)) (hPrev (hd bs p)) size ≠ 0 then chk (hCode (hd bs p)) (hNext (hd bs p)) (hPrev (hd bs p)) size else if unitN bs p > ((bs.length - p : Nat) : Int) then 30 else 0 := by
      unfold lookE; rw [if_neg h1, if_neg (by simpa using hm)]
    rw [e]
    clear e
    unfold unitN
    clear k1 hx hxl h hm
    generalize hCode (hd bs p) = c at *
    generalize hNext (hd bs p) = nx at *
    generalize hPrev (hd bs p) = pv at *
    generalize chk c nx pv size = ce at *
    refine CallsF.call [] [] k2 rfl rfl rfl rfl rfl (.inl rfl) ?_
    conv => whnf
    refine CallsF.call [] [] kc rfl rfl rfl rfl rfl (.inl rfl) ?_
    conv => whnf
    by_cases he : ce = 0
    · subst he
      rw [if_neg (show ¬ (0 : Int) ≠ 0 by decide)]
      conv => whnf
      refine CallsF.call [1] [] kl rfl rfl rfl rfl rfl (.inl rfl) ?_
      conv => whnf
      generalize (if 13 > nx then 13 else nx) = un at *
      refine ifB_of (fun h3 => ?_) (fun h3 => ?_)
      · have h3 := of_decide_eq_true h3
        rw [if_pos h3, if_neg (by decide)]
        conv => whnf
        exact ⟨[], [], rfl, rfl, rfl⟩
      · have h3 := of_decide_eq_false h3
        rw [if_neg h3, if_pos rfl]
        conv => whnf
        exact ⟨[], [], rfl, rfl, rfl⟩
    · have he' : (ce != 0) = true := by simp [he]
      rw [if_pos he, if_neg he, he']
      conv => whnf
      exact ⟨[], [], rfl, rfl, rfl⟩
  · rw [if_neg hm] at k2
    have e : lookE bs p size = 270 := by unfold lookE; rw [if_neg h1, if_pos hm]
    rw [e]
    refine CallsF.call [] [] k2 rfl rfl rfl rfl rfl (.inl rfl) ?_
    conv => whnf
    exact ⟨[], [], rfl, rfl, rfl⟩

/-- The next unit's data. -/
def uData (bs : List Int) (p : Nat) : List Int := ((bs.drop p).take (unitN bs p).toNat).drop 13

theorem lookE_ok {bs : List Int} {p : Nat} {size : Int} (h : lookE bs p size = 0) : 13 ≤ unitN bs p ∧ unitN bs p ≤ (bs.length - p : Nat) := by
  have h1 : 13 ≤ unitN bs p := by unfold unitN; split <;> omega
  refine ⟨h1, ?_⟩
  unfold lookE at h
  split at h
  · omega
  split at h
  · omega
  split at h
  · rename_i h2; exact absurd h h2
  split at h <;> omega

theorem next_end (bs : List Int) (p : Nat) (size : Int) : CallsF Try.prog 69 [.bp 0 0] [wk size true, cur bs p] (.tup [.agg [iv 0, .snil], iv 272]) [wk size true, cur bs p] := by
  refine e69 ?_
  conv => whnf
  refine CallsF.call [0, 1] [] (look_end bs p size) rfl rfl rfl rfl rfl (.inl rfl) ?_
  conv => whnf
  exact ⟨[], [], rfl, rfl, rfl⟩

set_option maxRecDepth 10000 in
theorem next_no (bs : List Int) (h : okB bs) (hb : bs.length < 4294967290) (p : Nat) (hp : p ≤ bs.length) (size : Int) (he : lookE bs p size ≠ 0) : CallsF Try.prog 69 [.bp 0 0] [wk size false, cur bs p] (.tup [.agg [iv 0, .snil], iv (lookE bs p size)]) [wk size false, cur bs p] := by
  have kl := look_spec bs h hb p hp size
  unfold lookV at kl
  rw [if_neg he] at kl
  generalize lookE bs p size = e at *
  refine e69 ?_
  conv => whnf
  refine CallsF.call [0, 1] [] kl rfl rfl rfl rfl rfl (.inl rfl) ?_
  conv => whnf
  rw [show (e != 0) = true by simp [he]]
  conv => whnf
  exact ⟨[], [], rfl, rfl, rfl⟩

set_option maxRecDepth 10000 in
theorem next_spec (bs : List Int) (h : okB bs) (hb : bs.length < 4294967290) (p : Nat) (hp : p ≤ bs.length) (size : Int) (he : lookE bs p size = 0) :
    CallsF Try.prog 69 [.bp 0 0] [wk size false, cur bs p] (.tup [.agg [iv (hCode (hd bs p)), .ri .u8 (uData bs p)], iv 0]) [wk (unitN bs p) (hCode (hd bs p) == 16), cur bs (p + (unitN bs p).toNat)] := by
  have kl := look_spec bs h hb p hp size
  obtain ⟨n1, n2⟩ := lookE_ok he
  unfold lookV at kl
  rw [if_pos he] at kl
  unfold uData
  clear he
  generalize hNext (hd bs p) = nx at *
  generalize hPrev (hd bs p) = pv at *
  generalize hCode (hd bs p) = c at *
  generalize unitN bs p = un at *
  obtain ⟨n, rfl⟩ : ∃ n : Nat, un = n := ⟨un.toNat, by omega⟩
  rw [show ((n : Int)).toNat = n from rfl]
  have hdl : ((bs.drop p).take n).length = n := by rw [List.length_take, List.length_drop]; omega
  refine e69 ?_
  conv => whnf
  refine CallsF.call [0, 1] [] kl rfl rfl rfl rfl rfl (.inl rfl) ?_
  conv => whnf
  refine CallsF.call [1] [] (take_spec bs hb p n (by omega) (by omega)) rfl rfl rfl rfl rfl (.inl rfl) ?_
  conv => whnf
  refine ⟨by repeat (first | exact same_nil | refine same_of rfl ?_), ?_⟩
  conv => whnf
  generalize (bs.drop p).take n = ys at *
  refine need_of ((decide_eq_true ⟨by omega, by omega, by omega⟩)) ?_
  conv => whnf
  have et : List.take (((ys.length : Int)).toNat - Int.toNat 13) (List.drop (Int.toNat 13) ys) = ys.drop 13 := by
    show (ys.drop 13).take (ys.length - 13) = _
    rw [List.take_of_length_le (by simp)]
  rw [et]
  conv => whnf
  exact ⟨[], [], rfl, rfl, rfl⟩


/-! Layer 27: the units of a stream: the walk. -/

/-- A walk over units: what is told, what is wrong, and where it ends. -/
def unitsL (bs : List Int) : Nat → Nat → Int → List (Int × List Int) × Int × Nat × Int × Bool
  | 0, p, size => ([], 30, p, size, false)
  | f + 1, p, size => if lookE bs p size = 0 then
      (if hCode (hd bs p) = 16 then ([], 0, p + (unitN bs p).toNat, unitN bs p, true)
       else ((hCode (hd bs p), uData bs p) :: (unitsL bs f (p + (unitN bs p).toNat) (unitN bs p)).1, (unitsL bs f (p + (unitN bs p).toNat) (unitN bs p)).2))
    else ([], lookE bs p size, p, size, false)

def uRow (x : Int × List Int) : List AV := [iv x.1, .ri .u8 x.2]
def wkL (size : Int) (ended : Bool) : Option ABlk := some (.box [.bp 3 0, iv size, .bool ended])
/-- What is lent: the walker's and the error's pointers, the walker, its cursor, the error. -/
def lent (bs : List Int) (r : Int × Nat × Int × Bool) : AHeap := [some (.box [.bp 2 0]), some (.box [.bp 4 0]), wkL r.2.2.1 r.2.2.2, cur bs r.2.1, some (.box [iv r.1])]

set_option maxRecDepth 10000 in
set_option maxHeartbeats 2000000 in
theorem units_iter (bs : List Int) (h : okB bs) (hb : bs.length < 4294967290) :
    IterL Try.prog 68 [.bp 0 0, .bp 1 0] (lent bs (0, 0, 0, false)) ((unitsL bs (bs.length + 1) 0 0).1.map fun x => [AV.agg (uRow x)]) (lent bs (unitsL bs (bs.length + 1) 0 0).2) := by
  obtain ⟨R, hR⟩ : ∃ R, (unitsL bs (bs.length + 1) 0 0).2 = R := ⟨_, rfl⟩
  rw [hR]
  refine j68 ⟨rfl, fun l => ?_⟩
  conv => whnf
  refine LoopA.inv (fun m st => ∃ (p : Nat) (size e : Int), p ≤ bs.length ∧ bs.length - p < m ∧ (unitsL bs m p size).2 = R ∧ st = ⟨[(0, .yld l), (1, .bp 0 0), (2, .bp 1 0), (999999, .gh l true ((unitsL bs m p size).1.map fun x => [AV.agg (uRow x)]))], lent bs (0, p, size, false), 5, 5⟩) (bs.length + 1) [0, 1, 2, 999999] [] [] (by rfl) ?_ ?_
  · conv => whnf
    exact ⟨0, 0, 0, by omega, by omega, hR, rfl⟩
  rintro m st ⟨p, size, e, hp, hm, hr, rfl⟩
  obtain ⟨f, rfl⟩ : ∃ f, m = f + 1 := ⟨m - 1, by omega⟩
  by_cases he : lookE bs p size = 0
  · have kn := next_spec bs h hb p hp size he
    obtain ⟨n1, n2⟩ := lookE_ok he
    conv => whnf
    refine CallsF.call [2, 3] [] kn rfl rfl rfl rfl rfl (.inl rfl) ?_
    conv => whnf
    refine ⟨.inr (by repeat (first | exact same_nil | refine same_of rfl ?_)), ?_⟩
    conv => whnf
    refine ⟨by repeat (first | exact same_nil | refine same_of rfl ?_), ?_⟩
    conv => whnf
    by_cases hc : hCode (hd bs p) = 16
    · have hu : unitsL bs (f + 1) p size = ([], 0, p + (unitN bs p).toNat, unitN bs p, true) := by rw [unitsL, if_pos he, if_pos hc]
      rw [hu] at hr ⊢
      subst hr
      rw [show (hCode (hd bs p) == 16) = true by rw [hc]; rfl]
      conv => whnf
      exact fun _ => ⟨rfl, [], [], rfl, rfl⟩
    · have hu : unitsL bs (f + 1) p size = ((hCode (hd bs p), uData bs p) :: (unitsL bs f (p + (unitN bs p).toNat) (unitN bs p)).1, (unitsL bs f (p + (unitN bs p).toNat) (unitN bs p)).2) := by rw [unitsL, if_pos he, if_neg hc]
      rw [hu] at hr ⊢
      rw [show (hCode (hd bs p) == 16) = false from beq_eq_false_iff_ne.2 hc]
      conv => whnf
      refine ⟨⟨rfl, rfl, rfl, rfl⟩, ?_, ?_⟩
      · conv => whnf
        refine ⟨f, [0, 1, 2, 999999], [], [], by omega, rfl, ?_⟩
        conv => whnf
        exact ⟨p + (unitN bs p).toNat, unitN bs p, e, by omega, by omega, hr, rfl⟩
      · conv => whnf
        exact fun h => absurd h (by simp)
  · have kn := next_no bs h hb p hp size he
    have hu : unitsL bs (f + 1) p size = ([], lookE bs p size, p, size, false) := by rw [unitsL, if_neg he]
    rw [hu] at hr ⊢
    subst hr
    conv => whnf
    refine CallsF.call [2, 3] [] kn rfl rfl rfl rfl rfl (.inl rfl) ?_
    conv => whnf
    refine ⟨.inr (by repeat (first | exact same_nil | refine same_of rfl ?_)), ?_⟩
    conv => whnf
    refine ⟨by repeat (first | exact same_nil | refine same_of rfl ?_), ?_⟩
    conv => whnf
    rw [show (lookE bs p size != 0) = true by simp [he]]
    conv => whnf
    exact fun _ => ⟨rfl, [], [], rfl, rfl⟩


/-! Layer 27: a stream is split: the walk. -/

theorem unew_spec (bs : List Int) (hb : bs.length < 4294967290) : CallsF Try.prog 46 [.ri .u8 bs] [] (.bp 0 0) [wk 0 false, cur bs 0] := by
  refine e46 ?_
  conv => whnf
  refine CallsF.call [] [] (cnew_spec bs hb) rfl rfl rfl rfl rfl (.inl rfl) ?_
  conv => whnf
  exact ⟨[1, 0], [], rfl, rfl, rfl⟩

theorem ufn_spec (bs : List Int) : CallsF Try.prog 47 [.bp 0 0, .bp 2 0] [wk 0 false, cur bs 0, some (.box [iv 0])] (.fn 68 [.bp 3 0, .bp 4 0]) [wk 0 false, cur bs 0, some (.box [iv 0]), some (.box [.bp 0 0]), some (.box [.bp 2 0])] := by
  refine e47 ?_
  conv => whnf
  exact ⟨[3, 4], [], rfl, rfl, rfl⟩

theorem uleft_spec (bs : List Int) (hb : bs.length < 4294967290) (p : Nat) (hp : p ≤ bs.length) (size : Int) (ended : Bool) : CallsF Try.prog 48 [.bp 0 0] [wk size ended, cur bs p] (iv (bs.length - p : Nat)) [wk size ended, cur bs p] := by
  refine e48 ?_
  conv => whnf
  refine CallsF.call [1] [] (cleft_spec bs hb p hp) rfl rfl rfl rfl rfl (.inl rfl) ?_
  conv => whnf
  exact ⟨[], [], rfl, rfl, rfl⟩

theorem unitsL_len (bs : List Int) : ∀ (f p : Nat) (size : Int), (unitsL bs f p size).1.length ≤ f
  | 0, _, _ => Nat.le_refl _
  | f + 1, p, size => by
    have := unitsL_len bs f (p + (unitN bs p).toNat) (unitN bs p)
    rw [unitsL]
    split
    · split
      · exact Nat.zero_le _
      · simp only [List.length_cons]; omega
    · exact Nat.zero_le _

theorem unitsL_end (bs : List Int) : ∀ (f p : Nat) (size : Int), p ≤ bs.length → (unitsL bs f p size).2.2.1 ≤ bs.length
  | 0, _, _, h => h
  | f + 1, p, size, h => by
    rw [unitsL]
    split
    · rename_i he
      obtain ⟨n1, n2⟩ := lookE_ok he
      split
      · show p + (unitN bs p).toNat ≤ bs.length; omega
      · exact unitsL_end bs f _ _ (by omega)
    · exact h

/-- What Split answers. -/
def splitE (bs : List Int) : Int := if (unitsL bs (bs.length + 1) 0 0).2.1 = 0 ∧ (unitsL bs (bs.length + 1) 0 0).2.2.1 < bs.length then 272 else (unitsL bs (bs.length + 1) 0 0).2.1
def unitsV (L : List (Int × List Int)) : AV := match L with | [] => .snil | _ => .ro 2 (L.map uRow)

theorem urows_succ {L : List (Int × List Int)} {k : Nat} {y : Int × List Int} (h : L[k]? = some y) : (L.take (k + 1)).map uRow = (L.take k).map uRow ++ [uRow y] := by
  obtain ⟨hk, he⟩ := List.getElem?_eq_some_iff.1 h
  rw [List.take_succ_eq_append_getElem hk, he, List.map_append]; rfl

set_option maxRecDepth 10000 in
set_option maxHeartbeats 2000000 in
theorem split_spec (bs : List Int) (h : okB bs) (hb : bs.length < 4294967290) : CallsF Try.prog 23 [.ri .u8 bs] [] (.tup [unitsV (unitsL bs (bs.length + 1) 0 0).1, iv (splitE bs)]) [] := by
  have hend := unitsL_end bs (bs.length + 1) 0 0 (by omega)
  unfold splitE
  obtain ⟨L, hL⟩ : ∃ L, (unitsL bs (bs.length + 1) 0 0).1 = L := ⟨_, rfl⟩
  obtain ⟨r, hr⟩ : ∃ r, (unitsL bs (bs.length + 1) 0 0).2 = r := ⟨_, rfl⟩
  have hll : L.length ≤ bs.length + 1 := by rw [← hL]; exact unitsL_len bs _ _ _
  have ki := units_iter bs h hb
  rw [hL, hr] at ki
  rw [hr] at hend
  rw [hL, hr]
  obtain ⟨e0, p0, s0, d0⟩ := r
  have kl := uleft_spec bs hb p0 hend s0 d0
  refine e23 ?_
  conv => whnf
  refine CallsF.call [] [] (unew_spec bs hb) rfl rfl rfl rfl rfl (.inl rfl) ?_
  conv => whnf
  refine CallsF.call [0, 1, 3] [] (ufn_spec bs) rfl rfl rfl rfl rfl (.inl rfl) ?_
  conv => whnf
  refine ⟨[4, 5, 6, 11], [0, 1, 2, 3, 4, 5], [], rfl, rfl, .inr ⟨[4, 5, 0, 1, 3], _, _, _, _, rfl, rfl, rfl, ki, rfl, ?_, fun k hp => (k = 0 ∧ hp = [none, none, some (.box [.snil]), none, none, none]) ∨ (0 < k ∧ hp = [none, none, some (.box [.sl 6 0 k]), none, none, none, some (.arr 2 ((L.take k).map uRow))]), .inl ⟨rfl, rfl⟩, ?_, ?_⟩⟩
  · intro x hx
    obtain ⟨y, _, rfl⟩ := List.mem_map.1 hx
    rfl
  · intro k x hp hx hI
    rw [List.getElem?_map, Option.map_eq_some_iff] at hx
    obtain ⟨y, hy, rfl⟩ := hx
    rcases hI with ⟨rfl, rfl⟩ | ⟨h0, rfl⟩
    · conv => whnf
      refine ⟨[8], [], rfl, .inr ⟨by omega, ?_⟩⟩
      rw [urows_succ hy]
      rfl
    · have hk := (List.getElem?_eq_some_iff.1 hy).1
      have hkl : ((L.take k).map uRow).length = k := by rw [List.length_map, List.length_take]; omega
      conv => whnf
      refine need_of ((by rw [Bool.and_eq_true, decide_eq_true_iff]; exact ⟨⟨by omega, (show 33 * (k + 1) ≤ 2 ^ 46 by omega)⟩, rfl⟩)) ?_
      conv => whnf
      refine ⟨[9], [], rfl, .inr ⟨by omega, ?_⟩⟩
      rw [urows_succ hy]
      rfl
  · rintro hp (⟨hk, rfl⟩ | ⟨hk, rfl⟩)
    · obtain rfl : L = [] := by
        cases L with
        | nil => rfl
        | cons a b => simp at hk
      refine ⟨rfl, ?_⟩
      conv => whnf
      refine ifB_of (fun he => ?_) (fun he => ?_)
      · have he : e0 = 0 := by simpa using he
        conv => whnf
        refine CallsF.call [0, 1] [] kl rfl rfl rfl rfl rfl (.inl rfl) ?_
        conv => whnf
        refine ifB_of (fun hc => ?_) (fun hc => ?_)
        · rw [if_pos ⟨he, by have := of_decide_eq_true hc; show p0 < _; omega⟩]
          conv => whnf
          exact ⟨[], [], rfl, rfl, rfl⟩
        · rw [if_neg (fun hh => by have := of_decide_eq_false hc; have h2 : p0 < bs.length := hh.2; omega)]
          conv => whnf
          exact ⟨[], [], rfl, rfl, rfl⟩
      · have he : ¬ e0 = 0 := by simpa using he
        rw [if_neg (fun hh => he hh.1)]
        conv => whnf
        exact ⟨[], [], rfl, rfl, rfl⟩
    · have hxl : (L.map fun x => [AV.agg (uRow x)]).length = L.length := List.length_map ..
      have hV : unitsV L = .ro 2 (L.map uRow) := by
        cases L with
        | nil => simp at hk
        | cons a b => rfl
      rw [hxl, List.take_length, hV]
      refine ⟨rfl, ?_⟩
      have hrl : (L.map uRow).length = L.length := List.length_map ..
      clear hxl hV hk hll hL hr
      generalize L.map uRow = rows at *
      generalize L.length = n at *
      conv => whnf
      refine ifB_of (fun he => ?_) (fun he => ?_)
      · have he : e0 = 0 := by simpa using he
        conv => whnf
        refine CallsF.call [0, 1] [] kl rfl rfl rfl rfl rfl (.inl rfl) ?_
        conv => whnf
        refine ifB_of (fun hc => ?_) (fun hc => ?_)
        · rw [if_pos ⟨he, by have := of_decide_eq_true hc; show p0 < _; omega⟩]
          conv => whnf
          refine ⟨[], [6], rfl, ?_, rfl⟩
          show AV.tup [AV.ro 2 ((rows.drop 0).take n), _] = _
          rw [List.drop_zero, ← hrl, List.take_length]
          rfl
        · rw [if_neg (fun hh => by have := of_decide_eq_false hc; have h2 : p0 < bs.length := hh.2; omega)]
          conv => whnf
          refine ⟨[], [6], rfl, ?_, rfl⟩
          show AV.tup [AV.ro 2 ((rows.drop 0).take n), _] = _
          rw [List.drop_zero, ← hrl, List.take_length]
          rfl
      · have he : ¬ e0 = 0 := by simpa using he
        rw [if_neg (fun hh => he hh.1)]
        conv => whnf
        refine ⟨[], [6], rfl, ?_, rfl⟩
        show AV.tup [AV.ro 2 ((rows.drop 0).take n), _] = _
        rw [List.drop_zero, ← hrl, List.take_length]
        rfl


end Go.Proofs.TryN

