/- Layer 3: the pen of bytes: the walk. -/
import Derived.Test.YtlnglbddnhabfaaN39G2
namespace Go.Proofs.TryN
open Go Go.AL Go.Proofs

/-! Layer 3: the pen of bytes: the walk. -/

/-- A pen, ahead of its first byte; with bytes; behind one more step. -/
def pN : AHeap := [some (.box [.snil])]
def pH (xs : List Int) : AHeap := [some (.box [.sl 1 0 xs.length]), some (.ia .u8 xs)]
def pX (xs : List Int) : AHeap := [some (.box [.sl 2 0 xs.length]), none, some (.ia .u8 xs)]

/-- A word's bytes. -/
def w4 (v : Int) : List Int := [v / 16777216, v / 65536 % 256, v / 256 % 256, v % 256]

theorem right_spec (v : Int) (h : 0 ≤ v ∧ v ≤ 4294967295) : CallsF Try.prog 79 [iv v] [] (.bool true) [] := by
  refine e79 ?_
  conv => whnf
  rw [decide_eq_true h.1]
  conv => whnf
  rw [decide_eq_true h.2]
  exact ⟨[], [], rfl, rfl, rfl⟩

theorem u8_shr {v : Int} (k : Nat) (hk : k ≤ 24) : IntKind.wrap .u8 (v.fdiv (2 ^ min ((k : Int)).toNat (IntKind.bits .i64))) = v / 2 ^ k % 256 := by
  have e : min ((k : Int)).toNat (IntKind.bits .i64) = k := by
    show min ((k : Int)).toNat 64 = k
    omega
  rw [e, Int.fdiv_eq_ediv_of_nonneg _ (Int.pow_nonneg (by decide))]
  rfl

theorem spell_spec (v : Int) (h : 0 ≤ v ∧ v ≤ 4294967295) : CallsF Try.prog 80 [iv v] [] (.ri .u8 (w4 v)) [] := by
  have e24 : IntKind.wrap .u8 (v.fdiv (2 ^ min (Int.toNat 24) (IntKind.bits .i64))) = v / 16777216 := by
    have := u8_shr (v := v) 24 (by decide)
    rw [show (((24 : Nat) : Int)).toNat = Int.toNat 24 from rfl] at this
    rw [this]; omega
  have e16 : IntKind.wrap .u8 (v.fdiv (2 ^ min (Int.toNat 16) (IntKind.bits .i64))) = v / 65536 % 256 := u8_shr 16 (by decide)
  have e8 : IntKind.wrap .u8 (v.fdiv (2 ^ min (Int.toNat 8) (IntKind.bits .i64))) = v / 256 % 256 := u8_shr 8 (by decide)
  have e0 : IntKind.wrap .u8 v = v % 256 := rfl
  refine e80 ?_
  conv => whnf
  rw [e24, e16, e8, e0]
  exact ⟨[], [0], rfl, rfl, rfl⟩

theorem pbyte_spec (xs : List Int) (hx : xs.length < 68719476736) (v : Int) (h : 0 ≤ v ∧ v ≤ 255) : CallsF Try.prog 72 [.bp 0 0, iv v] (pH xs) (.bool true) (pX (xs ++ [v])) := by
  have e0 : IntKind.wrap .u8 v = v := by
    show v % 256 = v
    omega
  refine m72 1 ?_
  conv => whnf
  rw [decide_eq_false (show ¬ v < 0 by omega)]
  conv => whnf
  rw [decide_eq_false (show ¬ v > 255 by omega)]
  conv => whnf
  refine need_of ((decide_eq_true ⟨by omega, (show 2 * (xs.length + 1) ≤ 2 ^ 46 by omega)⟩)) ?_
  conv => whnf
  refine ⟨[3], [], rfl, rfl, ?_⟩
  show [some (ABlk.box [.sl 2 0 (xs.length + 1)]), none, some (.ia .u8 (xs.drop 0 ++ [IntKind.wrap .u8 v]))] = _
  rw [e0, List.drop_zero]
  simp [pX]

theorem padd_spec (xs ys : List Int) (hx : xs.length < 68719476736) (hy : ys.length < 4294967296) : CallsF Try.prog 59 [.bp 0 0, .ri .u8 ys] (pH xs) (.tup []) (pX (xs ++ ys)) := by
  refine m59 1 ?_
  conv => whnf
  refine need_of ((decide_eq_true ⟨by omega, by omega⟩)) ?_
  conv => whnf
  refine ⟨[2], [], rfl, rfl, ?_⟩
  show [some (ABlk.box [.sl 2 0 (xs.length + ys.length)]), none, some (.ia .u8 (xs.drop 0 ++ ys))] = _
  rw [List.drop_zero]
  simp [pX]

theorem padd_nil (y : Int) (ys : List Int) (hy : ys.length < 4294967296) : CallsF Try.prog 59 [.bp 0 0, .ri .u8 (y :: ys)] pN (.tup []) (pH (y :: ys)) := by
  refine m59 1 ?_
  conv => whnf
  refine need_of ((decide_eq_true (by omega))) ?_
  conv => whnf
  exact ⟨[1], [], rfl, rfl, rfl⟩

theorem pword_spec (xs : List Int) (hx : xs.length < 68719476736) (v : Int) (h : 0 ≤ v ∧ v ≤ 4294967295) : CallsF Try.prog 73 [.bp 0 0, iv v] (pH xs) (.bool true) (pX (xs ++ w4 v)) := by
  refine m73 1 ?_
  conv => whnf
  refine CallsF.call [] [] (right_spec v h) rfl rfl rfl rfl rfl (.inl rfl) ?_
  conv => whnf
  refine CallsF.call [] [] (spell_spec v h) rfl rfl rfl rfl rfl (.inl rfl) ?_
  conv => whnf
  refine ⟨.inl ⟨_, rfl⟩, ?_⟩
  conv => whnf
  refine need_of ((decide_eq_true ⟨by omega, (show 2 * (xs.length + 4) ≤ 2 ^ 46 by omega)⟩)) ?_
  conv => whnf
  refine ⟨[2], [], rfl, rfl, ?_⟩
  show [some (ABlk.box [.sl 2 0 (xs.length + 4)]), none, some (.ia .u8 (xs.drop 0 ++ w4 v))] = _
  rw [List.drop_zero]
  simp [pX, w4]

theorem plen_spec (xs : List Int) : CallsF Try.prog 57 [.bp 0 0] (pH xs) (iv xs.length) (pH xs) := by
  refine e57 ?_
  conv => whnf
  exact ⟨[], [], rfl, rfl, rfl⟩
theorem plen_nil : CallsF Try.prog 57 [.bp 0 0] pN (iv 0) pN := by
  refine e57 ?_
  conv => whnf
  exact ⟨[], [], rfl, rfl, rfl⟩

theorem clone8_sl (x : Int) (xs : List Int) (hb : xs.length < 4294967296) : CallsF Try.prog 51 [.sl 0 0 (xs.length + 1)] [some (.ia .u8 (x :: xs))] (.ri .u8 (x :: xs)) [some (.ia .u8 (x :: xs))] := by
  refine e51 ?_
  conv => whnf
  refine need_of ((decide_eq_true (by simp; omega))) ?_
  conv => whnf
  refine ⟨[], [1], rfl, ?_, rfl⟩
  show AV.ri .u8 (((x :: (xs.take xs.length)).drop 0).take ((xs.take xs.length).length + 1)) = _
  simp

theorem pbytes_spec (x : Int) (xs : List Int) (hx : xs.length < 4294967290) : CallsF Try.prog 60 [.bp 0 0] (pH (x :: xs)) (.ri .u8 (x :: xs)) (pH (x :: xs)) := by
  have k := clone8_sl x xs (by omega)
  refine e60 ?_
  conv => whnf
  refine CallsF.call [1] [] k rfl rfl rfl rfl rfl (.inl rfl) ?_
  conv => whnf
  exact ⟨[], [], rfl, rfl, rfl⟩

/-- A unit's head. -/
def headB (c n p : Int) : List Int := [66, 66, 67, 68, c] ++ w4 n ++ w4 p

theorem w4_len (v : Int) : (w4 v).length = 4 := rfl
theorem headB_len (c n p : Int) : (headB c n p).length = 13 := rfl

set_option maxRecDepth 10000 in
theorem put_spec (xs : List Int) (hx : xs.length < 4294967296) (c n p : Int) (hc : 0 ≤ c ∧ c ≤ 255) (hn : 0 ≤ n ∧ n ≤ 4294967295) (hp : 0 ≤ p ∧ p ≤ 4294967295) : CallsF Try.prog 58 [.bp 0 0, iv c, iv n, iv p] (pH xs) (.tup []) (pX (xs ++ headB c n p)) := by
  have k1 := padd_spec xs [66, 66, 67, 68] (by omega) (by decide)
  have k2 := pbyte_spec (xs ++ [66, 66, 67, 68]) (by simp; omega) c hc
  have k3 := pword_spec (xs ++ [66, 66, 67, 68] ++ [c]) (by simp; omega) n hn
  have k4 := pword_spec (xs ++ [66, 66, 67, 68] ++ [c] ++ w4 n) (by simp [w4_len]; omega) p hp
  have e : xs ++ [66, 66, 67, 68] ++ [c] ++ w4 n ++ w4 p = xs ++ headB c n p := by simp [headB]
  rw [e] at k4
  generalize xs ++ headB c n p = D at *
  generalize xs ++ [66, 66, 67, 68] ++ [c] ++ w4 n = C at *
  generalize xs ++ [66, 66, 67, 68] ++ [c] = B at *
  generalize xs ++ [66, 66, 67, 68] = A at *
  unfold pH pX at *
  refine m58 1 ?_
  conv => whnf
  refine CallsF.call [0, 1] [] k1 rfl rfl rfl rfl rfl (.inl rfl) ?_
  conv => whnf
  first | refine pt_of [0, 1, 2, 3] [3] [] (by rfl) ?_ | refine ptw_of [0, 1, 2, 3] [3] [] (by rfl) ?_
  conv => whnf
  refine CallsF.call [0, 1] [] k2 rfl rfl rfl rfl rfl (.inl rfl) ?_
  conv => whnf
  first | refine pt_of [0, 1, 2, 3] [2] [] (by rfl) ?_ | refine ptw_of [0, 1, 2, 3] [2] [] (by rfl) ?_
  conv => whnf
  refine CallsF.call [0, 1] [] k3 rfl rfl rfl rfl rfl (.inl rfl) ?_
  conv => whnf
  first | refine pt_of [0, 1, 2, 3] [2] [] (by rfl) ?_ | refine ptw_of [0, 1, 2, 3] [2] [] (by rfl) ?_
  conv => whnf
  refine CallsF.call [0, 1] [] k4 rfl rfl rfl rfl rfl (.inl rfl) ?_
  conv => whnf
  exact ⟨[2], [], rfl, rfl, rfl⟩

set_option maxRecDepth 10000 in
theorem put_nil (c n p : Int) (hc : 0 ≤ c ∧ c ≤ 255) (hn : 0 ≤ n ∧ n ≤ 4294967295) (hp : 0 ≤ p ∧ p ≤ 4294967295) : CallsF Try.prog 58 [.bp 0 0, iv c, iv n, iv p] pN (.tup []) (pH (headB c n p)) := by
  have k1 := padd_nil 66 [66, 67, 68] (by decide)
  have k2 := pbyte_spec [66, 66, 67, 68] (by simp) c hc
  have k3 := pword_spec ([66, 66, 67, 68] ++ [c]) (by simp) n hn
  have k4 := pword_spec ([66, 66, 67, 68] ++ [c] ++ w4 n) (by simp [w4_len]) p hp
  have e : [66, 66, 67, 68] ++ [c] ++ w4 n ++ w4 p = headB c n p := by simp [headB]
  rw [e] at k4
  generalize headB c n p = D at *
  generalize [66, 66, 67, 68] ++ [c] ++ w4 n = C at *
  generalize [66, 66, 67, 68] ++ [c] = B at *
  unfold pN pH pX at *
  refine m58 1 ?_
  conv => whnf
  refine CallsF.call [0] [] k1 rfl rfl rfl rfl rfl (.inl rfl) ?_
  conv => whnf
  first | refine pt_of [0, 1, 2, 3] [2] [] (by rfl) ?_ | refine ptw_of [0, 1, 2, 3] [2] [] (by rfl) ?_
  conv => whnf
  refine CallsF.call [0, 1] [] k2 rfl rfl rfl rfl rfl (.inl rfl) ?_
  conv => whnf
  first | refine pt_of [0, 1, 2, 3] [2] [] (by rfl) ?_ | refine ptw_of [0, 1, 2, 3] [2] [] (by rfl) ?_
  conv => whnf
  refine CallsF.call [0, 1] [] k3 rfl rfl rfl rfl rfl (.inl rfl) ?_
  conv => whnf
  first | refine pt_of [0, 1, 2, 3] [2] [] (by rfl) ?_ | refine ptw_of [0, 1, 2, 3] [2] [] (by rfl) ?_
  conv => whnf
  refine CallsF.call [0, 1] [] k4 rfl rfl rfl rfl rfl (.inl rfl) ?_
  conv => whnf
  exact ⟨[2], [], rfl, rfl, rfl⟩


/-! Layer 27: units are joined: the walk. -/

/-- The bytes of units, behind one of a size. -/
def joinL : Int → List (Int × List Int) → List Int
  | p, [] => headB 16 0 p
  | p, x :: r => headB x.1 ((13 + x.2.length : Nat) : Int) p ++ x.2 ++ joinL ((13 + x.2.length : Nat) : Int) r

theorem joinL_len (p : Int) (L : List (Int × List Int)) : 13 ≤ (joinL p L).length := by
  cases L with
  | nil => rw [joinL, headB_len]; exact Nat.le_refl _
  | cons x r => rw [joinL]; simp only [List.length_append, headB_len]; omega

/-- A pen with what was put. -/
def penH (xs : List Int) : AHeap := match xs with | [] => pN | _ :: _ => pH xs

theorem penH_ne {xs : List Int} (h : xs ≠ []) : penH xs = pH xs := by
  cases xs with
  | nil => exact absurd rfl h
  | cons a l => rfl

theorem joinL_many (p : Int) (L : List (Int × List Int)) : L.length ≤ (joinL p L).length := by
  induction L generalizing p with
  | nil => exact Nat.zero_le _
  | cons x r ih =>
    have := ih ((13 + x.2.length : Nat) : Int)
    rw [joinL]; simp only [List.length_append, headB_len, List.length_cons]; omega

theorem room_eq (x : Nat) (h : x ≤ 2147483647) : IntKind.wrap .i64 (IntKind.wrap .i64 (2147483647 - (x : Int)) - 13) = 2147483634 - (x : Int) := by
  rw [wrap_id (n := 2147483647 - (x : Int)) (by omega) (by omega), wrap_id (by omega) (by omega)]; omega

theorem knownB_in {c : Int} (h : knownB c = true) : 0 ≤ c ∧ c ≤ 255 := by
  unfold knownB isP at h
  simp only [Bool.or_eq_true, beq_iff_eq, Bool.and_eq_true, decide_eq_true_iff] at h
  omega

theorem uRow_at {L : List (Int × List Int)} {rows : List (List AV)} (hr : L.map uRow = rows) {i : Nat} (h : i < L.length) : nth rows (i : Int).toNat = some (uRow L[i]) := by
  rw [Int.toNat_natCast, nth_get, ← hr, List.getElem?_map, List.getElem?_eq_getElem h]; rfl

set_option maxRecDepth 10000 in
set_option maxHeartbeats 1000000 in
theorem join_spec (L : List (Int × List Int)) (hk : ∀ x ∈ L, knownB x.1 = true ∧ x.1 ≠ 16) (hT : (joinL 0 L).length ≤ 2147483647) :
    CallsF Try.prog 40 [.ro 2 (L.map uRow)] [] (.tup [.ri .u8 (joinL 0 L), iv 0]) [] := by
  have hLl := joinL_many 0 L
  obtain ⟨T, hTe⟩ : ∃ T, joinL 0 L = T := ⟨_, rfl⟩
  rw [hTe] at hT hLl ⊢
  obtain ⟨rows, hr⟩ : ∃ rows, L.map uRow = rows := ⟨_, rfl⟩
  have hrl : rows.length = L.length := by rw [← hr, List.length_map]
  rw [hr]
  refine e40 ?_
  conv => whnf
  refine LoopA.inv (fun m st => ∃ (i : Nat) (xs : List Int) (prev : Nat), m + i = L.length ∧ xs ++ joinL prev (L.drop i) = T ∧ prev ≤ 2147483647 ∧ st = ⟨[(4, .bp 0 0), (5, iv prev), (11, .ro 2 rows), (12, iv (rows.length : Nat)), (13, iv i)], penH xs, (penH xs).length, 0⟩) L.length [4, 5, 11, 12, 13] [0] [] (by rfl) ?_ ?_
  · conv => whnf
    exact ⟨0, [], 0, rfl, hTe, by decide, rfl⟩
  rintro m st ⟨i, xs, prev, hm, hx, hp, rfl⟩
  by_cases h1 : i < L.length
  · have hrow := uRow_at hr h1
    obtain ⟨hk1, hk2⟩ := hk L[i] (List.getElem_mem h1)
    have hd : L.drop i = L[i] :: L.drop (i + 1) := List.drop_eq_getElem_cons h1
    rw [hd, joinL] at hx
    obtain ⟨c, d, hcd⟩ : ∃ c d, L[i] = (c, d) := ⟨_, _, rfl⟩
    rw [hcd] at hrow hk1 hk2 hx
    have hrow : nth rows (i : Int).toNat = some [iv c, .ri .u8 d] := hrow
    have hk1 : knownB c = true := hk1
    have hk2 : c ≠ 16 := hk2
    have hx : xs ++ (headB c ((13 + d.length : Nat) : Int) prev ++ d ++ joinL ((13 + d.length : Nat) : Int) (L.drop (i + 1))) = T := hx
    have hci := knownB_in hk1
    have kk := known_spec c hci
    rw [hk1] at kk
    have hlen : xs.length + 13 + d.length + 13 ≤ 2147483647 := by
      have h2 := joinL_len ((13 + d.length : Nat) : Int) (L.drop (i + 1))
      rw [← hx] at hT
      simp only [List.length_append, headB_len] at hT
      omega
    have e13 : IntKind.wrap .i64 (13 + (d.length : Int)) = ((13 + d.length : Nat) : Int) := by rw [wrap_id (by omega) (by omega)]; omega
    have hxn : xs ++ headB c ((13 + d.length : Nat) : Int) prev ++ d ++ joinL ((13 + d.length : Nat) : Int) (L.drop (i + 1)) = T := by rw [← hx]; simp
    have ncm : (((c == 16) : Bool)) = false := by simp [hk2]
    by_cases hx0 : xs = []
    · subst hx0
      have k1 := put_nil c ((13 + d.length : Nat) : Int) prev hci (by omega) (by omega)
      have k2 := padd_spec (headB c ((13 + d.length : Nat) : Int) prev) d (by rw [headB_len]; omega) (by omega)
      have kl := plen_nil
      have er : IntKind.wrap .i64 (IntKind.wrap .i64 (2147483647 - 0) - 13) = 2147483634 := by rfl
      have hxc : headB c ((13 + d.length : Nat) : Int) prev ++ d ≠ [] := by simp [headB]
      rw [List.nil_append] at hxn
      have hln : d.length + 26 ≤ 2147483647 := by simp only [List.length_nil] at hlen; omega
      unfold pH pX at k2
      unfold pH pN at k1
      unfold pN at kl
      generalize headB c ((13 + d.length : Nat) : Int) prev = HB at *
      show wpA _ _ _ ⟨_, [some (.box [.snil])], 1, 0⟩
      conv => whnf
      refine ifB_of (fun _ => ?_) (fun h => ((of_decide_eq_false h) (by omega)).elim)
      conv => whnf
      rw [aop_idxS_ro hrow rfl rfl]
      conv => whnf
      rw [e13]
      refine CallsF.call [] [] kk rfl rfl rfl rfl rfl (.inl rfl) ?_
      conv => whnf
      rw [ncm]
      conv => whnf
      refine CallsF.call [0] [] kl rfl rfl rfl rfl rfl (.inl rfl) ?_
      conv => whnf
      rw [er]
      refine ifB_of (fun h => absurd (of_decide_eq_true h) (by omega)) (fun _ => ?_)
      conv => whnf
      first | refine pt_of [4, 5, 7, 8, 11, 12, 13] [0, 1] [] (by rfl) ?_ | refine ptw_of [4, 5, 7, 8, 11, 12, 13] [0, 1] [] (by rfl) ?_
      conv => whnf
      refine CallsF.call [0] [] k1 rfl rfl rfl rfl rfl (.inl rfl) ?_
      conv => whnf
      first | refine pt_of [4, 5, 7, 8, 11, 12, 13] [0, 2, 1] [] (by rfl) ?_ | refine ptw_of [4, 5, 7, 8, 11, 12, 13] [0, 2, 1] [] (by rfl) ?_
      conv => whnf
      refine CallsF.call [0, 1] [] k2 rfl rfl rfl rfl rfl (.inl rfl) ?_
      conv => whnf
      rw [inc_nat i (by omega)]
      refine ⟨(m - 1), [4, 5, 11, 12, 13], [0, 3], [], by omega, rfl, ?_⟩
      conv => whnf
      refine ⟨i + 1, HB ++ d, 13 + d.length, by omega, hxn, by omega, ?_⟩
      rw [penH_ne hxc]
      rfl
    · rw [penH_ne hx0]
      have k1 := put_spec xs (by omega) c ((13 + d.length : Nat) : Int) prev hci (by omega) (by omega)
      have k2 := padd_spec (xs ++ headB c ((13 + d.length : Nat) : Int) prev) d (by simp only [List.length_append, headB_len]; omega) (by omega)
      have kl := plen_spec xs
      have er := room_eq xs.length (by omega)
      have hxc : xs ++ headB c ((13 + d.length : Nat) : Int) prev ++ d ≠ [] := by simp [hx0]
      unfold pH pX at k2
      unfold pH pX at k1
      unfold pH at kl
      generalize xs ++ headB c ((13 + d.length : Nat) : Int) prev = HB at *
      show wpA _ _ _ ⟨_, [some (.box [.sl 1 0 xs.length]), some (.ia .u8 xs)], 2, 0⟩
      generalize xs.length = xl at *
      conv => whnf
      refine ifB_of (fun _ => ?_) (fun h => ((of_decide_eq_false h) (by omega)).elim)
      conv => whnf
      rw [aop_idxS_ro hrow rfl rfl]
      conv => whnf
      rw [e13]
      refine CallsF.call [] [] kk rfl rfl rfl rfl rfl (.inl rfl) ?_
      conv => whnf
      rw [ncm]
      conv => whnf
      refine CallsF.call [0, 1] [] kl rfl rfl rfl rfl rfl (.inl rfl) ?_
      conv => whnf
      rw [er]
      refine ifB_of (fun h => absurd (of_decide_eq_true h) (by omega)) (fun _ => ?_)
      conv => whnf
      first | refine pt_of [4, 5, 7, 8, 11, 12, 13] [0, 1, 2] [] (by rfl) ?_ | refine ptw_of [4, 5, 7, 8, 11, 12, 13] [0, 1, 2] [] (by rfl) ?_
      conv => whnf
      refine CallsF.call [0, 1] [] k1 rfl rfl rfl rfl rfl (.inl rfl) ?_
      conv => whnf
      first | refine pt_of [4, 5, 7, 8, 11, 12, 13] [0, 3, 2] [] (by rfl) ?_ | refine ptw_of [4, 5, 7, 8, 11, 12, 13] [0, 3, 2] [] (by rfl) ?_
      conv => whnf
      refine CallsF.call [0, 1] [] k2 rfl rfl rfl rfl rfl (.inl rfl) ?_
      conv => whnf
      rw [inc_nat i (by omega)]
      refine ⟨(m - 1), [4, 5, 11, 12, 13], [0, 3], [], by omega, rfl, ?_⟩
      conv => whnf
      refine ⟨i + 1, HB ++ d, 13 + d.length, by omega, hxn, by omega, ?_⟩
      rw [penH_ne hxc]
      rfl
  · have h1 : i = L.length := by omega
    subst h1
    rw [List.drop_length, joinL] at hx
    by_cases hx0 : xs = []
    · subst hx0
      have k1 := put_nil 16 0 prev (by decide) (by decide) (by omega)
      rw [List.nil_append] at hx
      obtain ⟨a, l, hal⟩ : ∃ a l, headB 16 0 prev = a :: l := ⟨_, _, rfl⟩
      have k2 := pbytes_spec a l (by have := headB_len 16 0 prev; rw [hal] at this; simp at this; omega)
      rw [← hx, hal]
      rw [hal] at k1
      unfold pH pN at k1
      unfold pH at k2
      show wpA _ _ _ ⟨_, [some (.box [.snil])], 1, 0⟩
      conv => whnf
      refine ifB_of (fun h => absurd (of_decide_eq_true h) (by omega)) (fun _ => ?_)
      conv => whnf
      refine CallsF.call [0] [] k1 rfl rfl rfl rfl rfl (.inl rfl) ?_
      conv => whnf
      first | refine pt_of [4] [0, 1] [] (by rfl) ?_ | refine ptw_of [4] [0, 1] [] (by rfl) ?_
      conv => whnf
      refine CallsF.call [0, 1] [] k2 rfl rfl rfl rfl rfl (.inl rfl) ?_
      conv => whnf
      exact ⟨[], [], rfl, rfl, rfl⟩
    · rw [penH_ne hx0]
      have hle : xs.length + 13 ≤ 2147483647 := by rw [← hx] at hT; simpa [headB_len] using hT
      have k1 := put_spec xs (by omega) 16 0 prev (by decide) (by decide) (by omega)
      obtain ⟨a, l, hal⟩ : ∃ a l, xs ++ headB 16 0 prev = a :: l := by
        cases xs with
        | nil => exact absurd rfl hx0
        | cons a l => exact ⟨_, _, rfl⟩
      have k2 := pbytes_spec a l (by have := congrArg List.length hal; simp [headB_len] at this; omega)
      rw [← hx, hal]
      rw [hal] at k1
      unfold pH pX at k1
      unfold pH at k2
      show wpA _ _ _ ⟨_, [some (.box [.sl 1 0 xs.length]), some (.ia .u8 xs)], 2, 0⟩
      conv => whnf
      refine ifB_of (fun h => absurd (of_decide_eq_true h) (by omega)) (fun _ => ?_)
      conv => whnf
      refine CallsF.call [0, 1] [] k1 rfl rfl rfl rfl rfl (.inl rfl) ?_
      conv => whnf
      first | refine pt_of [4] [0, 2] [] (by rfl) ?_ | refine ptw_of [4] [0, 2] [] (by rfl) ?_
      conv => whnf
      refine CallsF.call [0, 1] [] k2 rfl rfl rfl rfl rfl (.inl rfl) ?_
      conv => whnf
      exact ⟨[], [], rfl, rfl, rfl⟩


/-! Layer 27: the document joins units: the walk. -/

theorem str_app (a b : List Int) : strOfNums a ++ strOfNums b = strOfNums (a ++ b) := by
  apply ByteArray.ext
  rw [ByteArray.data_append]
  simp [strOfNums]

theorem nums_str {xs : List Int} (h : okB xs) : numsOf (strOfNums xs) = xs := by
  unfold numsOf strOfNums
  rw [List.toList_toArray, List.map_map]
  refine (List.map_congr_left fun x hx => ?_).trans (List.map_id _)
  have := h x hx
  show (((UInt8.ofNat x.toNat).toNat : Nat) : Int) = x
  rw [UInt8.toNat_ofNat']
  omega

theorem rword_spec (v : Int) (h : 0 ≤ v ∧ v ≤ 4294967295) : CallsF Try.prog 33 [iv v] [] (.str (strOfNums (w4 v))) [] := by
  have d1 : IntKind.wrap .i64 (v.tdiv 16777216) = v / 16777216 := by rw [Int.tdiv_eq_ediv_of_nonneg h.1, wrap_id (by omega) (by omega)]
  have d2 : IntKind.wrap .i64 (v.tdiv 65536) = v / 65536 := by rw [Int.tdiv_eq_ediv_of_nonneg h.1, wrap_id (by omega) (by omega)]
  have d3 : IntKind.wrap .i64 (v.tdiv 256) = v / 256 := by rw [Int.tdiv_eq_ediv_of_nonneg h.1, wrap_id (by omega) (by omega)]
  have m2 : IntKind.wrap .u8 ((v / 65536).tmod 256) = v / 65536 % 256 := by
    rw [Int.tmod_eq_emod_of_nonneg (by omega)]
    show v / 65536 % 256 % 256 = _
    omega
  have m3 : IntKind.wrap .u8 ((v / 256).tmod 256) = v / 256 % 256 := by
    rw [Int.tmod_eq_emod_of_nonneg (by omega)]
    show v / 256 % 256 % 256 = _
    omega
  have m4 : IntKind.wrap .u8 (v.tmod 256) = v % 256 := by
    rw [Int.tmod_eq_emod_of_nonneg h.1]
    show v % 256 % 256 = _
    omega
  have m1 : IntKind.wrap .u8 (v / 16777216) = v / 16777216 := by
    show v / 16777216 % 256 = _
    omega
  refine e33 ?_
  conv => whnf
  rw [d1, d2, d3, m1, m2, m3, m4]
  exact ⟨[], [], rfl, rfl, rfl⟩

theorem u8_id {c : Int} (h : 0 ≤ c ∧ c ≤ 255) : IntKind.wrap .u8 c = c := by
  show c % 256 = c
  omega

theorem str_lits : ({ data := #[66, 66, 67, 68] } : ByteArray) = strOfNums [66, 66, 67, 68] := by rfl

set_option maxRecDepth 10000 in
set_option maxHeartbeats 1000000 in
theorem rjoin_spec (L : List (Int × List Int)) (hk : ∀ x ∈ L, knownB x.1 = true ∧ x.1 ≠ 16) (ho : okB (joinL 0 L)) (hT : (joinL 0 L).length ≤ 2147483647) :
    CallsF Try.prog 21 [.ro 2 (L.map uRow)] [] (.tup [.ri .u8 (joinL 0 L), .bool true]) [] := by
  have hLl := joinL_many 0 L
  obtain ⟨T, hTe⟩ : ∃ T, joinL 0 L = T := ⟨_, rfl⟩
  rw [hTe] at hT hLl ho ⊢
  obtain ⟨rows, hr⟩ : ∃ rows, L.map uRow = rows := ⟨_, rfl⟩
  have hrl : rows.length = L.length := by rw [← hr, List.length_map]
  rw [hr]
  refine e21 ?_
  conv => whnf
  refine LoopA.inv (fun m st => ∃ (i : Nat) (xs : List Int) (prev : Nat), m + i = L.length ∧ xs ++ joinL prev (L.drop i) = T ∧ prev ≤ 2147483647 ∧ st = ⟨[(4, .str (strOfNums xs)), (5, iv prev), (9, .ro 2 rows), (10, iv (rows.length : Nat)), (11, iv i)], [], 0, 0⟩) L.length [4, 5, 9, 10, 11] [] [] (by rfl) ?_ ?_
  · conv => whnf
    exact ⟨0, [], 0, rfl, hTe, by decide, rfl⟩
  rintro m st ⟨i, xs, prev, hm, hx, hp, rfl⟩
  by_cases h1 : i < L.length
  · have hrow := uRow_at hr h1
    obtain ⟨hk1, hk2⟩ := hk L[i] (List.getElem_mem h1)
    have hd : L.drop i = L[i] :: L.drop (i + 1) := List.drop_eq_getElem_cons h1
    rw [hd, joinL] at hx
    obtain ⟨c, d, hcd⟩ : ∃ c d, L[i] = (c, d) := ⟨_, _, rfl⟩
    rw [hcd] at hrow hk1 hk2 hx
    have hrow : nth rows (i : Int).toNat = some [iv c, .ri .u8 d] := hrow
    have hk1 : knownB c = true := hk1
    have hk2 : c ≠ 16 := hk2
    have hx : xs ++ (headB c ((13 + d.length : Nat) : Int) prev ++ d ++ joinL ((13 + d.length : Nat) : Int) (L.drop (i + 1))) = T := hx
    have hci := knownB_in hk1
    have kk := rknown_spec c
    rw [hk1] at kk
    have hlen : xs.length + 13 + d.length + 13 ≤ 2147483647 := by
      have h2 := joinL_len ((13 + d.length : Nat) : Int) (L.drop (i + 1))
      rw [← hx] at hT
      simp only [List.length_append, headB_len] at hT
      omega
    have e13 : IntKind.wrap .i64 (13 + (d.length : Int)) = ((13 + d.length : Nat) : Int) := by rw [wrap_id (by omega) (by omega)]; omega
    have hxn : xs ++ (headB c ((13 + d.length : Nat) : Int) prev ++ d) ++ joinL ((13 + d.length : Nat) : Int) (L.drop (i + 1)) = T := by rw [← hx]; simp
    have ncm : (((c == 16) : Bool)) = false := by simp [hk2]
    have k1 := rword_spec ((13 + d.length : Nat) : Int) (by omega)
    have k2 := rword_spec (prev : Int) (by omega)
    conv => whnf
    refine ifB_of (fun _ => ?_) (fun h => ((of_decide_eq_false h) (by omega)).elim)
    conv => whnf
    rw [aop_idxS_ro hrow rfl rfl]
    conv => whnf
    refine CallsF.call [] [] kk rfl rfl rfl rfl rfl (.inl rfl) ?_
    conv => whnf
    rw [ncm]
    conv => whnf
    rw [u8_id hci, str_lits, str_app, e13]
    refine CallsF.call [] [] k1 rfl rfl rfl rfl rfl (.inl rfl) ?_
    conv => whnf
    refine ⟨.inl ⟨_, rfl⟩, ?_⟩
    conv => whnf
    rw [str_app]
    refine CallsF.call [] [] k2 rfl rfl rfl rfl rfl (.inl rfl) ?_
    conv => whnf
    refine ⟨.inl ⟨_, rfl⟩, ?_⟩
    conv => whnf
    rw [str_app]
    refine need_of ((decide_eq_true (by rw [str_size, str_size]; simp [w4_len]; omega))) ?_
    conv => whnf
    rw [str_app]
    refine need_of ((decide_eq_true (by rw [str_size, str_size]; simp [w4_len]; omega))) ?_
    conv => whnf
    rw [str_app, inc_nat i (by omega)]
    refine ⟨(m - 1), [4, 5, 9, 10, 11], [], [], by omega, rfl, ?_⟩
    conv => whnf
    refine ⟨i + 1, _, 13 + d.length, by omega, hxn, by omega, rfl⟩
  · have h1 : i = L.length := by omega
    subst h1
    rw [List.drop_length, joinL] at hx
    have hle : xs.length + 13 ≤ 2147483647 := by rw [← hx] at hT; simpa [headB_len] using hT
    have k1 := rword_spec 0 (by decide)
    have k2 := rword_spec (prev : Int) (by omega)
    have el : ({ data := #[66, 66, 67, 68, 16] } : ByteArray) = strOfNums [66, 66, 67, 68, 16] := by rfl
    conv => whnf
    refine ifB_of (fun h => absurd (of_decide_eq_true h) (by omega)) (fun _ => ?_)
    conv => whnf
    rw [el]
    refine need_of ((decide_eq_true (by rw [str_size, str_size]; simp; omega))) ?_
    conv => whnf
    rw [str_app]
    refine CallsF.call [] [] k1 rfl rfl rfl rfl rfl (.inl rfl) ?_
    conv => whnf
    refine need_of ((decide_eq_true (by rw [str_size, str_size]; simp [w4_len]; omega))) ?_
    conv => whnf
    rw [str_app]
    refine CallsF.call [] [] k2 rfl rfl rfl rfl rfl (.inl rfl) ?_
    conv => whnf
    refine need_of ((decide_eq_true (by rw [str_size, str_size]; simp [w4_len]; omega))) ?_
    conv => whnf
    rw [str_app]
    have et : xs ++ [66, 66, 67, 68, 16] ++ w4 0 ++ w4 prev = T := by rw [← hx]; simp [headB]
    rw [et, nums_str ho]
    exact ⟨[], [], rfl, rfl, rfl⟩


/-! Layer 27: a stream is split: the walk (39F's, with the list as one's own). -/

set_option maxRecDepth 10000 in
set_option maxHeartbeats 2000000 in
theorem splitO_spec (bs : List Int) (h : okB bs) (hb : bs.length < 4294967290) : CallsF Try.prog 23 [.ri .u8 bs] [] (.tup [accV ((unitsL bs (bs.length + 1) 0 0).1.map uRow), iv (splitE bs)]) (accH 2 ((unitsL bs (bs.length + 1) 0 0).1.map uRow)) := by
  have hend := unitsL_end bs (bs.length + 1) 0 0 (by omega)
  unfold splitE
  obtain ⟨L, hL⟩ : ∃ L, (unitsL bs (bs.length + 1) 0 0).1 = L := ⟨_, rfl⟩
  obtain ⟨r, hr⟩ : ∃ r, (unitsL bs (bs.length + 1) 0 0).2 = r := ⟨_, rfl⟩
  have hll : L.length ≤ bs.length + 1 := by rw [← hL]; exact unitsL_len bs _ _ _
  have ki := units_iter bs h hb
  rw [hL, hr] at ki
  rw [hr] at hend
  rw [hL, hr]
  obtain ⟨e0, p0, s0, d0⟩ := r
  have kl := uleft_spec bs hb p0 hend s0 d0
  refine e23 ?_
  conv => whnf
  refine CallsF.call [] [] (unew_spec bs hb) rfl rfl rfl rfl rfl (.inl rfl) ?_
  conv => whnf
  refine CallsF.call [0, 1, 3] [] (ufn_spec bs) rfl rfl rfl rfl rfl (.inl rfl) ?_
  conv => whnf
  refine ⟨[4, 5, 6, 11], [0, 1, 2, 3, 4, 5], [], rfl, rfl, .inr ⟨[4, 5, 0, 1, 3], _, _, _, _, rfl, rfl, rfl, ki, rfl, ?_, fun k hp => (k = 0 ∧ hp = [none, none, some (.box [.snil]), none, none, none]) ∨ (0 < k ∧ hp = [none, none, some (.box [.sl 6 0 k]), none, none, none, some (.arr 2 ((L.take k).map uRow))]), .inl ⟨rfl, rfl⟩, ?_, ?_⟩⟩
  · intro x hx
    obtain ⟨y, _, rfl⟩ := List.mem_map.1 hx
    rfl
  · intro k x hp hx hI
    rw [List.getElem?_map, Option.map_eq_some_iff] at hx
    obtain ⟨y, hy, rfl⟩ := hx
    rcases hI with ⟨rfl, rfl⟩ | ⟨h0, rfl⟩
    · conv => whnf
      refine ⟨[8], [], rfl, .inr ⟨by omega, ?_⟩⟩
      rw [urows_succ hy]
      rfl
    · have hk := (List.getElem?_eq_some_iff.1 hy).1
      have hkl : ((L.take k).map uRow).length = k := by rw [List.length_map, List.length_take]; omega
      conv => whnf
      refine need_of ((by rw [Bool.and_eq_true, decide_eq_true_iff]; exact ⟨⟨by omega, (show 33 * (k + 1) ≤ 2 ^ 46 by omega)⟩, rfl⟩)) ?_
      conv => whnf
      refine ⟨[9], [], rfl, .inr ⟨by omega, ?_⟩⟩
      rw [urows_succ hy]
      rfl
  · rintro hp (⟨hk, rfl⟩ | ⟨hk, rfl⟩)
    · obtain rfl : L = [] := by
        cases L with
        | nil => rfl
        | cons a b => simp at hk
      refine ⟨rfl, ?_⟩
      conv => whnf
      refine ifB_of (fun he => ?_) (fun he => ?_)
      · have he : e0 = 0 := by simpa using he
        conv => whnf
        refine CallsF.call [0, 1] [] kl rfl rfl rfl rfl rfl (.inl rfl) ?_
        conv => whnf
        refine ifB_of (fun hc => ?_) (fun hc => ?_)
        · rw [if_pos ⟨he, by have := of_decide_eq_true hc; show p0 < _; omega⟩]
          conv => whnf
          exact ⟨[], [], rfl, rfl, rfl⟩
        · rw [if_neg (fun hh => by have := of_decide_eq_false hc; have h2 : p0 < bs.length := hh.2; omega)]
          conv => whnf
          exact ⟨[], [], rfl, rfl, rfl⟩
      · have he : ¬ e0 = 0 := by simpa using he
        rw [if_neg (fun hh => he hh.1)]
        conv => whnf
        exact ⟨[], [], rfl, rfl, rfl⟩
    · have hxl : (L.map fun x => [AV.agg (uRow x)]).length = L.length := List.length_map ..
      have hne : L.map uRow ≠ [] := by
        cases L with
        | nil => simp at hk
        | cons a b => simp
      rw [hxl, List.take_length, accV_cons hne, accH_cons 2 hne]
      refine ⟨rfl, ?_⟩
      have hrl : (L.map uRow).length = L.length := List.length_map ..
      clear hxl hk hll hL hr
      generalize L.map uRow = rows at *
      generalize L.length = n at *
      conv => whnf
      refine ifB_of (fun he => ?_) (fun he => ?_)
      · have he : e0 = 0 := by simpa using he
        conv => whnf
        refine CallsF.call [0, 1] [] kl rfl rfl rfl rfl rfl (.inl rfl) ?_
        conv => whnf
        refine ifB_of (fun hc => ?_) (fun hc => ?_)
        · rw [if_pos ⟨he, by have := of_decide_eq_true hc; show p0 < _; omega⟩]
          conv => whnf
          exact ⟨[6], [], rfl, by rw [hrl]; rfl, rfl⟩
        · rw [if_neg (fun hh => by have := of_decide_eq_false hc; have h2 : p0 < bs.length := hh.2; omega)]
          conv => whnf
          exact ⟨[6], [], rfl, by rw [hrl]; rfl, rfl⟩
      · have he : ¬ e0 = 0 := by simpa using he
        rw [if_neg (fun hh => he hh.1)]
        conv => whnf
        exact ⟨[6], [], rfl, by rw [hrl]; rfl, rfl⟩


/-! Layer 39: a stream is stripped: the walk. -/

/-- Does a unit say nothing of a film? -/
def bareB (x : Int × List Int) : Bool := (x.1 == 32) || (x.1 == 48)

theorem bare_spec (x : Int × List Int) : CallsF Try.prog 37 [.agg (uRow x)] [] (.bool (bareB x)) [] := by
  unfold bareB uRow
  refine e37 ?_
  conv => whnf
  refine ifB_of (fun h1 => ?_) (fun h1 => ?_)
  · rw [h1]
    conv => whnf
    exact ⟨[], [], rfl, rfl, rfl⟩
  · rw [h1]
    conv => whnf
    exact ⟨[], [], rfl, rfl, rfl⟩

def idxV (q : (Int × List Int) → Bool) (L : List (Int × List Int)) : AV := if L.findIdx q < L.length then iv (L.findIdx q) else iv (-1)

theorem idxV_at {q : (Int × List Int) → Bool} {L : List (Int × List Int)} {i : Nat} (h : i < L.length) (h1 : q L[i] = true) (h2 : ∀ (t : Nat) (h : t < L.length), t < i → q L[t] = false) : idxV q L = iv i := by
  have : L.findIdx q = i := (List.findIdx_eq h).2 ⟨h1, fun j hj => by rw [h2 j (by omega) hj]⟩
  unfold idxV
  rw [this, if_pos h]
theorem idxV_no {q : (Int × List Int) → Bool} {L : List (Int × List Int)} (h2 : ∀ (t : Nat) (h : t < L.length), q L[t] = false) : idxV q L = iv (-1) := by
  have : L.findIdx q = L.length := List.findIdx_eq_length.2 fun x hx => by
    obtain ⟨t, ht, rfl⟩ := List.getElem_of_mem hx
    exact h2 t ht
  unfold idxV
  rw [this, if_neg (Nat.lt_irrefl _)]

set_option maxRecDepth 10000 in
theorem index_spec (L : List (Int × List Int)) (hL : L.length < 1000000) : CallsF Try.prog 27 [.ro 2 (L.map uRow), .fn 37 []] [] (idxV bareB L) [] := by
  obtain ⟨rows, hr⟩ : ∃ rows, L.map uRow = rows := ⟨_, rfl⟩
  have hrl : rows.length = L.length := by rw [← hr, List.length_map]
  rw [hr]
  refine e27 ?_
  conv => whnf
  refine LoopA.inv (fun m st => ∃ i : Nat, m + i = L.length ∧ (∀ (t : Nat) (h : t < L.length), t < i → bareB L[t] = false) ∧ st = ⟨[(0, .ro 2 rows), (1, .fn 37 []), (6, .ro 2 rows), (7, iv (rows.length : Nat)), (8, iv i)], [], 0, 0⟩) L.length [0, 1, 6, 7, 8] [] [] (by rfl) ?_ ?_
  · conv => whnf
    exact ⟨0, rfl, fun t h h0 => absurd h0 (by omega), rfl⟩
  rintro m st ⟨i, hm, hno, rfl⟩
  by_cases h1 : i < L.length
  · have hrow := uRow_at hr h1
    have kb := bare_spec L[i]
    unfold uRow at hrow kb
    conv => whnf
    refine ifB_of (fun _ => ?_) (fun h => ((of_decide_eq_false h) (by omega)).elim)
    conv => whnf
    rw [aop_idxS_ro hrow rfl rfl]
    conv => whnf
    cases hq : bareB L[i] with
    | true =>
      rw [hq] at kb
      refine CallsF.call [] [] kb rfl rfl rfl rfl rfl (.inl rfl) ?_
      conv => whnf
      exact ⟨[], [], rfl, (idxV_at h1 hq hno).symm, rfl⟩
    | false =>
      rw [hq] at kb
      refine CallsF.call [] [] kb rfl rfl rfl rfl rfl (.inl rfl) ?_
      conv => whnf
      rw [inc_nat i (by omega)]
      refine ⟨(m - 1), [0, 1, 6, 7, 8], [], [], by omega, rfl, ?_⟩
      conv => whnf
      refine ⟨i + 1, by omega, fun t h ht => ?_, rfl⟩
      by_cases hti : t = i
      · subst hti; exact hq
      · exact hno t h (by omega)
  · conv => whnf
    refine ifB_of (fun h => absurd (of_decide_eq_true h) (by omega)) (fun _ => ?_)
    conv => whnf
    refine ⟨[], [], rfl, ?_, rfl⟩
    exact (idxV_no fun t h => hno t h (by omega)).symm


/-! Layer 39: a stream is stripped: the library's DeleteFunc. -/

/-- Units without those that say nothing of a film. -/
def stripL (L : List (Int × List Int)) : List (Int × List Int) := L.filter fun x => !bareB x

theorem aop_store_arr {tm : List (Nat × AV)} {hp : AHeap} {hn n : Nat} {a x : Opd} {b i s : Nat} {rows : List (List AV)} {row new : List AV} (hr : nth rows i = some row) (he : ev tm a = .ep b i 0) (hb : nth hp b = some (some (.arr s rows)))
    (hx : ev tm x = .agg new) (hn' : new.length = n) (hl : row.length = n) (hc : new.all closed = true) : aop tm hp hn (.store n a x) = some (true, .undef, .put b (.arr s (rows.set i new))) := by
  have e1 : Nat.beq new.length n = true := by simp [hn']
  have e2 : splice row 0 new = new := by simp [splice, show row.length ≤ new.length by omega]
  simp only [aop, hx, AV.cells, e1, he, writeAt, hb, hr]
  have e3 : (Nat.ble (0 + new.length) row.length && new.all closed) = true := by simp [hc]; omega
  rw [e3]
  simp only [e2, lset_eq]

theorem urow_nth {M : List (Int × List Int)} {i : Nat} {x : Int × List Int} (h : M[i]? = some x) : nth (M.map uRow) i = some (uRow x) := by
  rw [nth_get, List.getElem?_map, h]; rfl

theorem strip_succ {L : List (Int × List Int)} {j : Nat} (h : j < L.length) : stripL (L.take (j + 1)) = if bareB L[j] then stripL (L.take j) else stripL (L.take j) ++ [L[j]] := by
  rw [List.take_succ_eq_append_getElem h]
  unfold stripL
  rw [List.filter_append]
  cases hb : bareB L[j] <;> simp [hb]

theorem clear_len (i n : Nat) (rows : List (List AV)) (z : List AV) (hi : i + n = rows.length) : rows.take i ++ List.replicate n z ++ rows.drop (i + n) = rows.take i ++ List.replicate n z := by
  rw [List.drop_eq_nil_of_le (by omega), List.append_nil]

set_option maxRecDepth 10000 in
set_option maxHeartbeats 1000000 in
theorem delete_spec (L : List (Int × List Int)) (hL : L.length < 1000000) :
    CallsF Try.prog 36 [.sl 0 0 L.length, .fn 37 []] [some (.arr 2 (L.map uRow))] (.sl 0 0 (stripL L).length) [some (.arr 2 ((stripL L).map uRow ++ List.replicate (L.length - (stripL L).length) [iv 0, .snil]))] := by
  have kI := index_spec L hL
  have et : ((L.map uRow).drop 0).take L.length = L.map uRow := by rw [List.drop_zero, List.take_of_length_le (by simp)]
  rw [← et] at kI
  by_cases hex : L.findIdx bareB < L.length
  · obtain ⟨i0, hi0⟩ : ∃ i0, L.findIdx bareB = i0 := ⟨_, rfl⟩
    rw [hi0] at hex
    obtain ⟨b1, b2⟩ := (List.findIdx_eq hex).1 hi0
    unfold idxV at kI
    rw [hi0, if_pos hex] at kI
    have hs0 : stripL (L.take (i0 + 1)) = L.take i0 := by
      rw [strip_succ hex, b1, if_pos rfl]
      unfold stripL
      rw [List.filter_eq_self]
      intro x hx
      obtain ⟨t, ht, rfl⟩ := List.getElem_of_mem hx
      rw [List.getElem_take, b2 t (by rw [List.length_take] at ht; omega)]
      rfl
    refine e36 ?_
    conv => whnf
    refine CallsF.call [] [0] kI rfl rfl rfl rfl rfl (.inr rfl) ?_
    conv => whnf
    rw [show ((i0 : Int) == -1) = false from beq_eq_false_iff_ne.2 (by omega)]
    conv => whnf
    rw [inc_nat i0 (by omega)]
    refine LoopA.inv (fun m st => ∃ (i j : Nat) (M : List (Int × List Int)), m + j = L.length ∧ i < j ∧ M.length = L.length ∧ M.take i = stripL (L.take j) ∧ M.drop j = L.drop j ∧ st = ⟨[(0, .sl 0 0 L.length), (1, .fn 37 []), (5, iv i), (6, iv j)], [some (.arr 2 (M.map uRow))], 1, 1⟩) (L.length - (i0 + 1)) [0, 1, 5, 6] [] [] (by rfl) ?_ ?_
    · conv => whnf
      exact ⟨i0, i0 + 1, L, by omega, by omega, rfl, hs0.symm, rfl, rfl⟩
    rintro m st ⟨i, j, M, hm, hij, hM, h1, h2, rfl⟩
    have hil : i = (stripL (L.take j)).length := by rw [← h1, List.length_take]; omega
    by_cases hj : j < L.length
    · have hMj : M[j]? = some L[j] := by
        have := congrArg (fun l => l[0]?) h2
        simp only [List.getElem?_drop, Nat.add_zero] at this
        rw [this, List.getElem?_eq_getElem hj]
      have hrow := urow_nth hMj
      have kb := bare_spec L[j]
      have hsj := strip_succ hj
      have hdj : M.drop (j + 1) = L.drop (j + 1) := by
        have := congrArg (List.drop 1) h2
        rw [List.drop_drop, List.drop_drop] at this
        exact this
      obtain ⟨c, d, hcd⟩ : ∃ c d, L[j] = (c, d) := ⟨_, _, rfl⟩
      rw [hcd] at hrow kb hsj hMj
      have hrow : nth (M.map uRow) (0 + (j : Int).toNat) = some [iv c, .ri .u8 d] := by rw [Nat.zero_add, Int.toNat_natCast]; exact hrow
      unfold uRow at kb
      have hri : ∃ y, nth (M.map uRow) (0 + (i : Int).toNat) = some (uRow y) := by
        rw [Nat.zero_add, Int.toNat_natCast]
        exact ⟨_, urow_nth (List.getElem?_eq_getElem (by omega))⟩
      obtain ⟨y, hri⟩ := hri
      conv => whnf
      refine ifB_of (fun _ => ?_) (fun h => ((of_decide_eq_false h) (by omega)).elim)
      conv => whnf
      refine need_of ((decide_eq_true ⟨by omega, by omega⟩)) ?_
      conv => whnf
      rw [aop_loadN_arr hrow rfl rfl rfl]
      conv => whnf
      cases hq : bareB (c, d) with
      | true =>
        rw [hq] at kb hsj
        rw [if_pos rfl] at hsj
        refine CallsF.call [] [] kb rfl rfl rfl rfl rfl (.inl rfl) ?_
        conv => whnf
        rw [inc_nat j (by omega)]
        refine ⟨(m - 1), [0, 1, 5, 6], [], [], by omega, rfl, ?_⟩
        conv => whnf
        exact ⟨i, j + 1, M, by omega, by omega, hM, by rw [hsj]; exact h1, hdj, rfl⟩
      | false =>
        rw [hq] at kb hsj
        rw [if_neg (by decide)] at hsj
        refine CallsF.call [] [] kb rfl rfl rfl rfl rfl (.inl rfl) ?_
        conv => whnf
        refine need_of ((decide_eq_true ⟨by omega, by omega⟩)) ?_
        conv => whnf
        rw [aop_store_arr (n := 2) (new := [iv c, .ri .u8 d]) hri rfl rfl rfl rfl rfl rfl]
        conv => whnf
        rw [inc_nat j (by omega), inc_nat i (by omega)]
        refine ⟨(m - 1), [0, 1, 5, 6], [], [], by omega, rfl, ?_⟩
        conv => whnf
        refine ⟨i + 1, j + 1, M.set i (c, d), by omega, by omega, by rw [List.length_set]; exact hM, ?_, ?_, ?_⟩
        · rw [hsj, ← h1, List.take_succ_eq_append_getElem (by rw [List.length_set]; omega), List.getElem_set_self, List.take_set_of_le (Nat.le_refl _)]
        · rw [List.drop_set_of_lt (by omega)]; exact hdj
        · rw [List.map_set, Nat.zero_add, Int.toNat_natCast]; rfl
    · have hje : j = L.length := by omega
      subst hje
      rw [List.take_length] at h1 hil
      have hrl : (M.map uRow).length = L.length := by rw [List.length_map, hM]
      have hti : (M.map uRow).take i = (stripL L).map uRow := by rw [← List.map_take, h1]
      generalize M.map uRow = R at *
      conv => whnf
      refine ifB_of (fun h => absurd (of_decide_eq_true h) (by omega)) (fun _ => ?_)
      conv => whnf
      refine need_of ((decide_eq_true ⟨by omega, by omega, by omega⟩)) ?_
      conv => whnf
      refine need_of ((decide_eq_true ⟨by omega, by omega, by omega⟩)) ?_
      conv => whnf
      refine ⟨[], [], rfl, ?_, ?_⟩
      · show AV.sl 0 0 i = _
        rw [hil]
      · show [some (ABlk.arr 2 (List.take (0 + (i : Int).toNat) R ++ List.replicate ((L.length : Int).toNat - (i : Int).toNat) [AV.int IntKind.i64 0, AV.snil] ++ List.drop (0 + (i : Int).toNat + ((L.length : Int).toNat - (i : Int).toNat)) R))] = _
        rw [Int.toNat_natCast, Int.toNat_natCast, Nat.zero_add, clear_len _ _ _ _ (by omega), hti, hil]
  · have hno : ∀ x ∈ L, bareB x = false := List.findIdx_eq_length.1 (by have := List.findIdx_le_length (p := bareB) (xs := L); omega)
    have hs : stripL L = L := List.filter_eq_self.2 fun x hx => by rw [hno x hx]; rfl
    unfold idxV at kI
    rw [if_neg hex] at kI
    rw [hs, Nat.sub_self, List.replicate_zero, List.append_nil]
    refine e36 ?_
    conv => whnf
    refine CallsF.call [] [0] kI rfl rfl rfl rfl rfl (.inr rfl) ?_
    conv => whnf
    exact ⟨[], [], rfl, rfl, rfl⟩

theorem delete_nil : CallsF Try.prog 36 [.snil, .fn 37 []] [] .snil [] := by
  have kI := index_spec [] (by decide)
  refine e36 ?_
  conv => whnf
  have kI : CallsF Try.prog 27 [.snil, .fn 37 []] [] (iv (-1)) [] := CallsF.weak (LeL.cons (AV.le.snil_o 2) (LeL.refl _)) kI
  refine CallsF.call [] [] kI rfl rfl rfl rfl rfl (.inl rfl) ?_
  conv => whnf
  exact ⟨[], [], rfl, rfl, rfl⟩

theorem strip1_nil : CallsF Try.prog 35 [.snil] [] .snil [] := by
  refine e35 ?_
  conv => whnf
  refine CallsF.call [] [] delete_nil rfl rfl rfl rfl rfl (.inl rfl) ?_
  conv => whnf
  exact ⟨[], [], rfl, rfl, rfl⟩

theorem strip1_spec (L : List (Int × List Int)) (hL : L.length < 1000000) :
    CallsF Try.prog 35 [.sl 0 0 L.length] [some (.arr 2 (L.map uRow))] (.sl 0 0 (stripL L).length) [some (.arr 2 ((stripL L).map uRow ++ List.replicate (L.length - (stripL L).length) [iv 0, .snil]))] := by
  have k := delete_spec L hL
  generalize (stripL L).map uRow ++ List.replicate (L.length - (stripL L).length) [iv 0, .snil] = R at *
  refine e35 ?_
  conv => whnf
  refine CallsF.call [0] [] k rfl rfl rfl rfl rfl (.inl rfl) ?_
  conv => whnf
  exact ⟨[], [], rfl, rfl, rfl⟩


end Go.Proofs.TryN

