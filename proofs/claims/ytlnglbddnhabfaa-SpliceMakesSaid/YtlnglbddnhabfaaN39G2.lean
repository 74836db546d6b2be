/- Layer 3: the document's cursor over a string: the walk. -/
import Derived.Test.YtlnglbddnhabfaaN39G1
namespace Go.Proofs.TryN
open Go Go.AL Go.Proofs

/-! Layer 3: the document's cursor over a string: the walk. -/

theorem str_size (xs : List Int) : (strOfNums xs).size = xs.length := by
  show ((xs.map _).toArray).size = _
  simp

theorem rtake_spec (xs : List Int) (p : Int) (n : Nat) (hp : 0 ≤ p ∧ p < 4294967290) (hn : n ≤ xs.length) (hx : xs.length < 4294967290) :
    CallsF Try.prog 67 [.bp 0 0, iv n] [some (.box [.str (strOfNums xs), iv p])] (.tup [.str ((strOfNums xs).extract 0 n), .bool true]) [some (.box [.str ((strOfNums xs).extract n xs.length), iv (p + n)])] := by
  have hs := str_size xs
  have e1 : IntKind.wrap .i64 (p + (n : Int)) = p + (n : Int) := wrap_id (by omega) (by omega)
  generalize strOfNums xs = s at *
  rw [← hs] at hn ⊢
  refine e67 ?_
  conv => whnf
  refine ifB_of (fun h1 => ?_) (fun h1 => ?_)
  · have h1 := of_decide_eq_true h1
    omega
  conv => whnf
  refine need_of ((decide_eq_true ⟨by omega, by omega, by omega⟩)) ?_
  conv => whnf
  refine need_of ((decide_eq_true ⟨by omega, by omega, by omega⟩)) ?_
  conv => whnf
  rw [e1]
  exact ⟨[], [], rfl, rfl, rfl⟩

theorem str_extract (xs : List Int) (l r : Nat) (_hr : r ≤ xs.length) : (strOfNums xs).extract l r = strOfNums ((xs.drop l).take (r - l)) := by
  apply ByteArray.ext
  rw [ByteArray.data_extract]
  apply Array.ext'
  simp [strOfNums, Array.toList_extract, List.map_drop, List.map_take, List.extract_eq_take_drop]


/-! Layer 3: the document's numbers of bytes: the walk. -/

theorem str_at (xs : List Int) (h : okB xs) (i : Nat) (hi : i < xs.length) : (((strOfNums xs).data.getD i 0).toNat : Int) = xs[i] := by
  have hx := h xs[i] (List.getElem_mem hi)
  have e : (strOfNums xs).data.getD i 0 = UInt8.ofNat (xs[i]).toNat := by
    simp [strOfNums, Array.getD, hi]
  rw [e, UInt8.toNat_ofNat']
  omega

set_option maxRecDepth 10000 in
theorem rnum_spec (xs : List Int) (h : okB xs) (p : Int) (n : Nat) (hp : 0 ≤ p ∧ p < 4294967290) (hn : n ≤ xs.length) (h4 : n ≤ 4) (hx : xs.length < 4294967290) :
    CallsF Try.prog 45 [.bp 0 0, iv n] [some (.box [.str (strOfNums xs), iv p])] (.tup [iv (numB (xs.take n)), .bool true]) [some (.box [.str (strOfNums (xs.drop n)), iv (p + n)])] := by
  have kt := rtake_spec xs p n hp hn hx
  have e1 : (strOfNums xs).extract 0 n = strOfNums (xs.take n) := by rw [str_extract _ _ _ hn]; rfl
  have e2 : (strOfNums xs).extract n xs.length = strOfNums (xs.drop n) := by rw [str_extract _ _ _ (Nat.le_refl _), List.take_of_length_le (by simp)]
  rw [e1, e2] at kt
  clear e1 e2
  have hy : okB (xs.take n) := okB_take h n
  have hyl : (xs.take n).length = n := by rw [List.length_take]; omega
  generalize xs.take n = ys at *
  have hs := str_size ys
  have hat := str_at ys hy
  refine e45 ?_
  conv => whnf
  refine CallsF.call [0] [] kt rfl rfl rfl rfl rfl (.inl rfl) ?_
  conv => whnf
  generalize strOfNums ys = s at *
  refine LoopA.inv (fun m st => ∃ i : Nat, m + i = n ∧ st = ⟨[(6, .str s), (7, .bool true), (8, iv (numB (ys.take i))), (9, iv i)], [some (.box [.str (strOfNums (xs.drop n)), iv (p + n)])], 1, 1⟩) n [6, 7, 8, 9] [] [] (by rfl) ?_ ?_
  · conv => whnf
    exact ⟨0, rfl, rfl⟩
  rintro m st ⟨i, hm, rfl⟩
  conv => whnf
  refine ifB_of (fun h1 => ?_) (fun h1 => ?_)
  · have h1 : i < n := by have := of_decide_eq_true h1; omega
    conv => whnf
    refine need_of ((decide_eq_true ⟨by omega, by omega⟩)) ?_
    conv => whnf
    have hi : i < ys.length := by omega
    have hv : ((s.data.getD (i : Int).toNat 0).toNat : Int) = ys[i] := hat i hi
    obtain ⟨n1, n2⟩ := numB_in ys hy i (by omega)
    have n3 : (256 : Int) ^ i ≤ 256 ^ 3 := by
      have hh : i = 0 ∨ i = 1 ∨ i = 2 ∨ i = 3 := by omega
      rcases hh with hh | hh | hh | hh <;> rw [hh] <;> decide
    have hb := hy ys[i] (List.getElem_mem hi)
    have ev : IntKind.wrap .i64 (IntKind.wrap .i64 (256 * numB (ys.take i)) + IntKind.wrap .i64 ys[i]) = numB (ys.take (i + 1)) := by
      rw [wrap_id (n := 256 * numB (ys.take i)) (by omega) (by omega), wrap_id (n := ys[i]) (by omega) (by omega), wrap_id (by omega) (by omega), List.take_succ_eq_append_getElem hi, numB_snoc]
    rw [hv, ev, inc_nat i (by omega)]
    refine ⟨(n - (i + 1)), [6, 7, 8, 9], [], [], by omega, rfl, ?_⟩
    conv => whnf
    exact ⟨i + 1, by omega, rfl⟩
  have h1 : i = n := by have := of_decide_eq_false h1; omega
  rw [h1, ← hyl, List.take_length]
  conv => whnf
  exact ⟨[], [], rfl, rfl, rfl⟩


/-! Layer 27: the document's codes: the walk. -/

theorem codes_spec : CallsF Try.prog 66 [] [] (.ri .i64 [0, 16, 32, 48, 8, 9, 10, 12, 13, 14]) [] := by
  refine e66 ?_
  conv => whnf
  exact ⟨[], [0], rfl, rfl, rfl⟩

def codesL : List Int := [0, 16, 32, 48, 8, 9, 10, 12, 13, 14]
theorem codes_any (c : Int) : codesL.contains c = knownB c := by
  simp only [codesL, List.contains_cons, List.contains_nil, knownB, isP, Bool.or_false]
  rw [Bool.eq_iff_iff]
  simp only [Bool.or_eq_true, beq_iff_eq, Bool.and_eq_true, decide_eq_true_iff]
  omega

set_option maxRecDepth 10000 in
theorem rknown_spec (c : Int) : CallsF Try.prog 44 [iv c] [] (.bool (knownB c)) [] := by
  have hc := codes_any c
  obtain ⟨L, hL⟩ : ∃ L, codesL = L := ⟨_, rfl⟩
  have kc : CallsF Try.prog 66 [] [] (.ri .i64 codesL) [] := codes_spec
  have hl : L.length = 10 := by rw [← hL]; rfl
  rw [hL] at hc kc
  clear hL
  rw [← hc]
  refine e44 ?_
  conv => whnf
  refine CallsF.call [] [] kc rfl rfl rfl rfl rfl (.inl rfl) ?_
  conv => whnf
  refine LoopA.inv (fun m st => ∃ i : Nat, m + i = L.length ∧ (L.take i).contains c = false ∧ st = ⟨[(0, iv c), (5, .ri .i64 L), (6, iv (L.length : Nat)), (7, iv i)], [], 0, 0⟩) L.length [0, 5, 6, 7] [] [] (by rfl) ?_ ?_
  · conv => whnf
    exact ⟨0, rfl, rfl, rfl⟩
  rintro m st ⟨i, hm, hno, rfl⟩
  conv => whnf
  refine ifB_of (fun h1 => ?_) (fun h1 => ?_)
  · have h1 : i < L.length := by have := of_decide_eq_true h1; omega
    have hv : L.getD (i : Int).toNat 0 = L[i] := by
      rw [Int.toNat_natCast, List.getD_eq_getElem?_getD, List.getElem?_eq_getElem h1]; rfl
    conv => whnf
    refine need_of ((decide_eq_true ⟨Int.natCast_nonneg i, by omega⟩)) ?_
    conv => whnf
    rw [hv]
    refine ifB_of (fun h2 => ?_) (fun h2 => ?_)
    · have h2 : L[i] = c := by simpa using h2
      have hh : L.contains c = true := by
        rw [List.contains_iff_mem, ← h2]; exact List.getElem_mem h1
      rw [hh]
      conv => whnf
      exact ⟨[], [], rfl, rfl, rfl⟩
    · have h2 : ¬ L[i] = c := by simpa using h2
      conv => whnf
      rw [inc_nat i (by omega)]
      refine ⟨(L.length - (i + 1)), [0, 5, 6, 7], [], [], by omega, rfl, ?_⟩
      conv => whnf
      refine ⟨i + 1, by omega, ?_, rfl⟩
      rw [List.take_succ_eq_append_getElem h1, List.contains_append, hno]
      simp [Ne.symm h2]
  have h1 : i = L.length := by have := of_decide_eq_false h1; omega
  rw [h1, List.take_length] at hno
  rw [hno]
  conv => whnf
  exact ⟨[], [], rfl, rfl, rfl⟩


/-! Layer 27: the document's unit at a place: the walk. -/

theorem chk_ok {c nx pv size : Int} (h : chk c nx pv size = 0) : knownB c = true ∧ pv = size ∧ (c = 16 → nx = 0) ∧ (c ≠ 16 → 13 ≤ nx) := by
  unfold chk at h
  split at h
  · omega
  rename_i h1
  split at h
  · omega
  rename_i h2
  split at h
  · omega
  rename_i h3
  split at h
  · omega
  rename_i h4
  refine ⟨by simpa using h1, by omega, fun hc => ?_, fun hc => ?_⟩
  · apply Classical.byContradiction; intro hn; exact h3 ⟨hc, hn⟩
  · apply Classical.byContradiction; intro hn; exact h4 ⟨hc, by omega⟩

theorem add_nat (p k : Nat) (hp : p < 4294967290) (hk : k < 4294967290) : IntKind.wrap .i64 ((p : Int) + (k : Int)) = ((p + k : Nat) : Int) := by rw [wrap_id (by omega) (by omega)]; omega

def oneV (c : Int) (d : List Int) (n : Int) : AV := .tup [.agg [iv c, .ri .u8 d], iv n, iv 0]
def noneV (e : Int) : AV := .tup [.agg [iv 0, .snil], iv 0, iv e]

set_option maxRecDepth 10000 in
theorem rone_trunc (bs : List Int) (hb : bs.length < 4294967290) (p : Nat) (hp : p ≤ bs.length) (size : Int) (h1 : bs.length - p < 13) :
    CallsF Try.prog 22 [.ri .u8 bs, iv p, iv size] [] (noneV 30) [] := by
  have e1 : IntKind.wrap .i64 ((bs.length : Int) - (p : Int)) = ((bs.length - p : Nat) : Int) := by rw [wrap_id (by omega) (by omega)]; omega
  refine e22 ?_
  conv => whnf
  rw [e1]
  refine ifB_of (fun _ => ?_) (fun h => absurd h (by simp; omega))
  conv => whnf
  exact ⟨[], [], rfl, rfl, rfl⟩

theorem str_lit (xs : List Int) (h : okB xs) : (strOfNums xs == { data := #[66, 66, 67, 68] }) = decide (xs = [66, 66, 67, 68]) :=
  str_beq xs [66, 66, 67, 68] h (by intro b hb; simp at hb; omega)

theorem ext_part (bs : List Int) (p i j : Nat) : List.take (((p + j : Nat) : Int).toNat - ((p + i : Nat) : Int).toNat) (List.drop ((p + i : Nat) : Int).toNat bs) = ((bs.drop p).take j).drop i := by
  rw [Int.toNat_natCast, Int.toNat_natCast, List.drop_take, List.drop_drop, show p + j - (p + i) = j - i by omega]

set_option maxRecDepth 10000 in
theorem rone_mark (bs : List Int) (h : okB bs) (hb : bs.length < 4294967290) (p : Nat) (size : Int) (h1 : p + 13 ≤ bs.length) (h2 : (hd bs p).take 4 ≠ [66, 66, 67, 68]) :
    CallsF Try.prog 22 [.ri .u8 bs, iv p, iv size] [] (noneV 270) [] := by
  have e1 : IntKind.wrap .i64 ((bs.length : Int) - (p : Int)) = ((bs.length - p : Nat) : Int) := by rw [wrap_id (by omega) (by omega)]; omega
  have e4 : IntKind.wrap .i64 ((p : Int) + 4) = ((p + 4 : Nat) : Int) := add_nat p 4 (by omega) (by omega)
  have ex := ext_part bs p 0 4
  have hm : (bs.drop p).take 4 = (hd bs p).take 4 := by unfold hd; rw [List.take_take]; rfl
  rw [List.drop_zero, hm] at ex
  refine e22 ?_
  conv => whnf
  rw [e1]
  refine ifB_of (fun h => absurd h (by simp; omega)) (fun _ => ?_)
  conv => whnf
  rw [e4]
  refine need_of ((decide_eq_true ⟨by omega, by omega, by omega⟩)) ?_
  conv => whnf
  rw [show (p : Int).toNat = ((p + 0 : Nat) : Int).toNat from rfl, ex, str_lit ((hd bs p).take 4) (okB_take (okB_take (okB_drop h p) 13) 4), decide_eq_false h2]
  conv => whnf
  exact ⟨[], [], rfl, rfl, rfl⟩



def dataV (d : List Int) : AV := match d with | [] => .semp | _ :: _ => .ri .u8 d

set_option maxRecDepth 10000 in
/-- A head that is there. -/
theorem rone_head (bs : List Int) (h : okB bs) (hb : bs.length < 4294967290) (p : Nat) (size : Int) (h1 : p + 13 ≤ bs.length) (h2 : (hd bs p).take 4 = [66, 66, 67, 68]) :
    CallsF Try.prog 22 [.ri .u8 bs, iv p, iv size] [] (if chk (hCode (hd bs p)) (hNext (hd bs p)) (hPrev (hd bs p)) size ≠ 0 then noneV (chk (hCode (hd bs p)) (hNext (hd bs p)) (hPrev (hd bs p)) size)
      else if unitN bs p > ((bs.length - p : Nat) : Int) then noneV 30 else .tup [.agg [iv (hCode (hd bs p)), dataV (uData bs p)], iv (unitN bs p), iv 0]) [] := by
  have e1 : IntKind.wrap .i64 ((bs.length : Int) - (p : Int)) = ((bs.length - p : Nat) : Int) := by rw [wrap_id (by omega) (by omega)]; omega
  have e4 : IntKind.wrap .i64 ((p : Int) + 4) = ((p + 4 : Nat) : Int) := add_nat p 4 (by omega) (by omega)
  have e13 : IntKind.wrap .i64 ((p : Int) + 13) = ((p + 13 : Nat) : Int) := add_nat p 13 (by omega) (by omega)
  have ex := ext_part bs p 0 4
  have hm : (bs.drop p).take 4 = (hd bs p).take 4 := by unfold hd; rw [List.take_take]; rfl
  rw [List.drop_zero, hm] at ex
  have ey : List.take (((p + 13 : Nat) : Int).toNat - ((p + 4 : Nat) : Int).toNat) (List.drop ((p + 4 : Nat) : Int).toNat bs) = (hd bs p).drop 4 := ext_part bs p 4 13
  have hx : okB (hd bs p) := okB_take (okB_drop h p) 13
  have hxl : (hd bs p).length = 13 := by unfold hd; rw [List.length_take, List.length_drop]; omega
  have hy : okB ((hd bs p).drop 4) := okB_drop hx 4
  have hyl : ((hd bs p).drop 4).length = 9 := by rw [List.length_drop]; omega
  have sl := str_lit ((hd bs p).take 4) (okB_take hx 4)
  rw [decide_eq_true h2] at sl
  have hc := hCode_in hx
  unfold uData unitN
  unfold hCode hNext hPrev at *
  generalize (hd bs p).drop 4 = ys at *
  have k1 := rnum_spec ys hy 0 1 (by omega) (by omega) (by omega) (by omega)
  have k2 := rnum_spec (ys.drop 1) (okB_drop hy 1) 1 4 (by omega) (by rw [List.length_drop]; omega) (by omega) (by rw [List.length_drop]; omega)
  have k3 := rnum_spec (ys.drop 5) (okB_drop hy 5) 5 4 (by omega) (by rw [List.length_drop]; omega) (by omega) (by rw [List.length_drop]; omega)
  rw [show (ys.drop 1).drop 4 = ys.drop 5 by rw [List.drop_drop]] at k2
  have ec : (ys.drop 0).take 1 = ys.take 1 := rfl
  rw [ec] at hc ⊢
  have kk := rknown_spec (numB (ys.take 1))
  refine e22 ?_
  conv => whnf
  rw [e1]
  refine ifB_of (fun h => absurd h (by simp; omega)) (fun _ => ?_)
  conv => whnf
  rw [e4]
  refine need_of ((decide_eq_true ⟨by omega, by omega, by omega⟩)) ?_
  conv => whnf
  rw [show (p : Int).toNat = ((p + 0 : Nat) : Int).toNat from rfl, ex, sl]
  conv => whnf
  rw [e13, e4]
  refine need_of ((decide_eq_true ⟨by omega, by omega, by omega⟩)) ?_
  conv => whnf
  rw [ey]
  refine CallsF.call [1] [] k1 rfl rfl rfl rfl rfl (.inl rfl) ?_
  conv => whnf
  refine CallsF.call [1] [] k2 rfl rfl rfl rfl rfl (.inl rfl) ?_
  conv => whnf
  refine CallsF.call [1] [] k3 rfl rfl rfl rfl rfl (.inl rfl) ?_
  conv => whnf
  generalize numB (ys.take 1) = c at *
  generalize numB ((ys.drop 1).take 4) = nx at *
  generalize numB ((ys.drop 5).take 4) = pv at *
  refine CallsF.call [] [] kk rfl rfl rfl rfl rfl (.inl rfl) ?_
  conv => whnf
  by_cases hk : knownB c = true
  case neg =>
    have hk : knownB c = false := by simpa using hk
    have he : chk c nx pv size = 272 := by unfold chk; rw [if_pos hk]
    rw [hk, he, if_pos (by decide)]
    conv => whnf
    exact ⟨[], [], rfl, rfl, rfl⟩
  rw [hk]
  conv => whnf
  by_cases hp : pv = size
  case neg =>
    have he : chk c nx pv size = 271 := by unfold chk; rw [if_neg (by simp [hk]), if_pos hp]
    rw [show (pv != size) = true by simp [hp], he, if_pos (by decide)]
    conv => whnf
    exact ⟨[], [], rfl, rfl, rfl⟩
  rw [show (pv != size) = false by simp [hp]]
  conv => whnf
  by_cases hc16 : c = 16
  · rw [show (c == 16) = true by simp [hc16]]
    conv => whnf
    by_cases hn : nx = 0
    case neg =>
      have he : chk c nx pv size = 271 := by unfold chk; rw [if_neg (by simp [hk]), if_neg (by simp [hp]), if_pos ⟨hc16, hn⟩]
      rw [show (nx != 0) = true by simp [hn], he, if_pos (by decide)]
      conv => whnf
      exact ⟨[], [], rfl, rfl, rfl⟩
    have he : chk c nx pv size = 0 := by unfold chk; rw [if_neg (by simp [hk]), if_neg (by simp [hp]), if_neg (fun h => h.2 hn), if_neg (fun h => h.1 hc16)]
    rw [show (nx != 0) = false by simp [hn], he, if_neg (by decide)]
    conv => whnf
    rw [show (c != 16) = false by simp [hc16]]
    conv => whnf
    rw [show (c == 16) = true by simp [hc16]]
    conv => whnf
    rw [if_pos (show (13 : Int) > nx by omega)]
    refine ifB_of (fun h5 => ?_) (fun h5 => ?_)
    · have h5 := of_decide_eq_true h5
      omega
    rw [if_neg (by have := of_decide_eq_false h5; omega)]
    conv => whnf
    rw [e13]
    refine need_of ((decide_eq_true ⟨by omega, by omega, by omega⟩)) ?_
    conv => whnf
    have ez := ext_part bs p 13 13
    have ez2 : ((bs.drop p).take 13).drop 13 = [] := List.drop_eq_nil_of_le (by rw [List.length_take]; omega)
    rw [ez2] at ez
    rw [ez, show (13 : Int).toNat = 13 from rfl, ez2]
    conv => whnf
    exact ⟨[], [], rfl, rfl, rfl⟩
  · rw [show (c == 16) = false by simp [hc16]]
    conv => whnf
    rw [show (c != 16) = true by simp [hc16]]
    conv => whnf
    by_cases hn : nx < 13
    · have he : chk c nx pv size = 271 := by unfold chk; rw [if_neg (by simp [hk]), if_neg (by simp [hp]), if_neg (fun h => hc16 h.1), if_pos ⟨hc16, hn⟩]
      rw [show decide (nx < 13) = true from decide_eq_true hn, he, if_pos (by decide)]
      conv => whnf
      exact ⟨[], [], rfl, rfl, rfl⟩
    have he : chk c nx pv size = 0 := by unfold chk; rw [if_neg (by simp [hk]), if_neg (by simp [hp]), if_neg (fun h => hc16 h.1), if_neg (fun h => hn h.2)]
    rw [show decide (nx < 13) = false from decide_eq_false hn, he, if_neg (by decide)]
    conv => whnf
    rw [show (c == 16) = false by simp [hc16]]
    conv => whnf
    rw [if_neg (show ¬ (13 : Int) > nx by omega)]
    refine ifB_of (fun h5 => ?_) (fun h5 => ?_)
    · rw [if_pos (of_decide_eq_true h5)]
      conv => whnf
      exact ⟨[], [], rfl, rfl, rfl⟩
    have h5 := of_decide_eq_false h5
    rw [if_neg h5]
    obtain ⟨n, rfl⟩ : ∃ n : Nat, nx = n := ⟨nx.toNat, by omega⟩
    have en : IntKind.wrap .i64 ((p : Int) + (n : Int)) = ((p + n : Nat) : Int) := add_nat p n (by omega) (by omega)
    have ez := ext_part bs p 13 n
    conv => whnf
    rw [e13, en]
    refine need_of ((decide_eq_true ⟨by omega, by omega, by omega⟩)) ?_
    conv => whnf
    rw [ez, Int.toNat_natCast]
    have hdl : (((bs.drop p).take n).drop 13).length < 4294967290 := by simp; omega
    generalize ((bs.drop p).take n).drop 13 = d at *
    cases d with
    | nil =>
      conv => whnf
      exact ⟨[], [], rfl, rfl, rfl⟩
    | cons x d =>
      conv => whnf
      refine need_of ((decide_eq_true (by simp at hdl; omega))) ?_
      conv => whnf
      refine ⟨[], [2], rfl, ?_, rfl⟩
      show AV.tup [.agg [iv c, .ri .u8 (((x :: d).drop 0).take (d.length + 1))], iv n, iv 0] = .tup [.agg [iv c, .ri .u8 (x :: d)], iv n, iv 0]
      rw [List.drop_zero, List.take_of_length_le (by simp)]

theorem LeL.refl : ∀ xs : List AV, LeL xs xs
  | [] => .nil
  | x :: xs => .cons (AV.le.refl x) (LeL.refl xs)
theorem AV.le.tup {xs ys : List AV} (h : LeL xs ys) : (AV.tup xs).le (.tup ys) := by
  intro w F S v hr
  obtain ⟨hl, hg⟩ := h.get
  cases hr with
  | tup _ _ vs h1 h2 =>
    exact .tup _ _ _ (by rw [← hl]; exact h1) fun i c v hc hv => by
      obtain ⟨x, hx⟩ : ∃ x, xs[i]? = some x := by
        have := (List.getElem?_eq_some_iff.1 hc).1
        exact ⟨xs[i], List.getElem?_eq_getElem (by omega)⟩
      exact hg i x c hx hc w F S v (h2 i x v hx hv)

/-- The document's unit at a place: the same. -/
theorem rone_spec (bs : List Int) (h : okB bs) (hb : bs.length < 4294967290) (p : Nat) (hp : p ≤ bs.length) (size : Int) :
    CallsF Try.prog 22 [.ri .u8 bs, iv p, iv size] [] (if lookE bs p size = 0 then oneV (hCode (hd bs p)) (uData bs p) (unitN bs p) else noneV (lookE bs p size)) [] := by
  by_cases h1 : bs.length - p < 13
  · have e : lookE bs p size = 30 := by unfold lookE; rw [if_pos h1]
    rw [e]
    exact rone_trunc bs hb p hp size h1
  by_cases h2 : (hd bs p).take 4 = [66, 66, 67, 68]
  case neg =>
    have e : lookE bs p size = 270 := by unfold lookE; rw [if_neg h1, if_pos h2]
    rw [e]
    exact rone_mark bs h hb p size (by omega) h2
  have k := rone_head bs h hb p size (by omega) h2
  have e : lookE bs p size = if chk (hCode (hd bs p)) (hNext (hd bs p)) (hPrev (hd bs p)) size ≠ 0 then chk (hCode (hd bs p)) (hNext (hd bs p)) (hPrev (hd bs p)) size else if unitN bs p > ((bs.length - p : Nat) : Int) then 30 else 0 := by
    unfold lookE; rw [if_neg h1, if_neg (by simpa using h2)]
  rw [e]
  generalize chk (hCode (hd bs p)) (hNext (hd bs p)) (hPrev (hd bs p)) size = ce at *
  by_cases hc : ce = 0
  · have hc' : ¬ ce ≠ 0 := fun h => h hc
    rw [if_neg hc'] at k ⊢
    by_cases h3 : unitN bs p > ((bs.length - p : Nat) : Int)
    · rw [if_pos h3] at k ⊢
      rw [if_neg (by decide)]
      exact k
    · rw [if_neg h3] at k ⊢
      rw [if_pos rfl]
      refine CallsF.le (CallsA.mono k fun r h' ⟨a, b⟩ => ⟨?_, b⟩)
      rw [a]
      unfold oneV
      cases uData bs p with
      | nil => exact AV.le.tup (LeL.cons (AV.le.agg (LeL.cons (AV.le.refl _) (LeL.cons (AV.le.semp .u8) .nil))) (LeL.refl _))
      | cons x d => exact AV.le.refl _
  · rw [if_pos hc] at k ⊢
    rw [if_neg hc]
    exact k


/-! Layer 27: the document splits a stream: the walk. -/

/-- What is gathered so far: a list, and the block in which it lies. -/
def accV (rows : List (List AV)) : AV := match rows with | [] => .snil | _ :: _ => .sl 0 0 rows.length
def accH (s : Nat) (rows : List (List AV)) : AHeap := match rows with | [] => [] | _ :: _ => [some (.arr s rows)]

theorem accV_snoc (rows : List (List AV)) (r : List AV) : accV (rows ++ [r]) = .sl 0 0 (rows.length + 1) := by
  cases rows with
  | nil => rfl
  | cons a l => show AV.sl 0 0 (a :: (l ++ [r])).length = _; simp
theorem accH_snoc (s : Nat) (rows : List (List AV)) (r : List AV) : accH s (rows ++ [r]) = [some (.arr s (rows ++ [r]))] := by
  cases rows with
  | nil => rfl
  | cons a l => rfl
theorem accV_cons {rows : List (List AV)} (h : rows ≠ []) : accV rows = .sl 0 0 rows.length := by
  cases rows with
  | nil => exact absurd rfl h
  | cons a l => rfl
theorem accH_cons (s : Nat) {rows : List (List AV)} (h : rows ≠ []) : accH s rows = [some (.arr s rows)] := by
  cases rows with
  | nil => exact absurd rfl h
  | cons a l => rfl
theorem uRow_snoc (A : List (Int × List Int)) (x : Int × List Int) : (A ++ [x]).map uRow = A.map uRow ++ [uRow x] := List.map_append ..

theorem unitsV_nil {A : List (Int × List Int)} (h : A.map uRow = []) : unitsV A = .snil := by
  cases A with
  | nil => rfl
  | cons a l => cases h
theorem unitsV_cons {A : List (Int × List Int)} {rows : List (List AV)} (h : A.map uRow = rows) (hn : rows ≠ []) : unitsV A = .ro 2 rows := by
  subst h
  cases A with
  | nil => exact absurd rfl hn
  | cons a l => rfl
theorem ro_take (s : Nat) (rows : List (List AV)) : AV.ro s ((rows.drop 0).take rows.length) = .ro s rows := by rw [List.drop_zero, List.take_length]

theorem splitE_of {bs : List Int} {e : Int} {p : Nat} {s : Int} {d : Bool} (h : (unitsL bs (bs.length + 1) 0 0).2 = (e, p, s, d)) : splitE bs = if e = 0 ∧ p < bs.length then 272 else e := by
  unfold splitE; rw [h]

set_option maxRecDepth 10000 in
set_option maxHeartbeats 2000000 in
theorem rsplit_spec (bs : List Int) (h : okB bs) (hb : bs.length < 4294967290) : CallsF Try.prog 6 [.ri .u8 bs] [] (.tup [unitsV (unitsL bs (bs.length + 1) 0 0).1, iv (splitE bs)]) [] := by
  have hll := unitsL_len bs (bs.length + 1) 0 0
  obtain ⟨L, hL⟩ : ∃ L, (unitsL bs (bs.length + 1) 0 0).1 = L := ⟨_, rfl⟩
  obtain ⟨r, hr⟩ : ∃ r, (unitsL bs (bs.length + 1) 0 0).2 = r := ⟨_, rfl⟩
  obtain ⟨e0, p0, s0, d0⟩ := r
  rw [splitE_of hr]
  rw [hL] at hll ⊢
  refine e6 ?_
  conv => whnf
  refine LoopA.inv (fun m st => ∃ (p : Nat) (size : Int) (A : List (Int × List Int)), p ≤ bs.length ∧ bs.length - p < m ∧ A.length + m = bs.length + 1 ∧ L = A ++ (unitsL bs m p size).1 ∧ (unitsL bs m p size).2 = (e0, p0, s0, d0) ∧ st = ⟨[(0, .ri .u8 bs), (4, accV (A.map uRow)), (5, iv p), (6, iv size)], accH 2 (A.map uRow), (accH 2 (A.map uRow)).length, 0⟩) (bs.length + 1) [0, 4, 5, 6] [] [] (by rfl) ?_ ?_
  · conv => whnf
    exact ⟨0, 0, [], by omega, by omega, by simp, hL.symm, hr, rfl⟩
  rintro m st ⟨p, size, A, hp, hm, hA, hl, hu, rfl⟩
  obtain ⟨f, rfl⟩ : ∃ f, m = f + 1 := ⟨m - 1, by omega⟩
  have ko := rone_spec bs h hb p hp size
  by_cases he : lookE bs p size = 0
  · rw [if_pos he] at ko
    obtain ⟨n1, n2⟩ := lookE_ok he
    rw [unitsL, if_pos he] at hl hu
    obtain ⟨n, hn⟩ : ∃ n : Nat, unitN bs p = n := ⟨(unitN bs p).toNat, by omega⟩
    rw [hn] at hl hu n1 n2 ko
    have en : IntKind.wrap .i64 ((p : Int) + (n : Int)) = ((p + n : Nat) : Int) := add_nat p n (by omega) (by omega)
    unfold oneV at ko
    generalize hCode (hd bs p) = c at *
    generalize uData bs p = d at *
    obtain ⟨rows, hrows⟩ : ∃ rows, A.map uRow = rows := ⟨_, rfl⟩
    have hrl : rows.length = A.length := by rw [← hrows, List.length_map]
    by_cases hc : c = 16
    · rw [if_pos hc] at hl hu
      simp only [List.append_nil] at hl
      subst hl
      obtain ⟨rfl, rfl, -, -⟩ : 0 = e0 ∧ p + (n : Int).toNat = p0 ∧ (n : Int) = s0 ∧ true = d0 := by simpa using hu
      rw [Int.toNat_natCast, hrows]
      clear hu hr hL
      by_cases hne : rows = []
      · subst hne
        rw [unitsV_nil hrows]
        conv => whnf
        refine CallsF.call [] [] ko rfl rfl rfl rfl rfl (.inl rfl) ?_
        conv => whnf
        rw [show (c == 16) = true by simp [hc]]
        conv => whnf
        rw [en]
        refine ifB_of (fun h5 => ?_) (fun h5 => ?_)
        · rw [if_pos ⟨rfl, by have := of_decide_eq_true h5; omega⟩]
          conv => whnf
          exact ⟨[], [], rfl, rfl, rfl⟩
        · rw [if_neg (fun hh => by have := of_decide_eq_false h5; omega)]
          conv => whnf
          exact ⟨[], [], rfl, rfl, rfl⟩
      · rw [unitsV_cons hrows hne, accV_cons hne, accH_cons 2 hne]
        conv => whnf
        refine CallsF.call [] [] ko rfl rfl rfl rfl rfl (.inl rfl) ?_
        conv => whnf
        rw [show (c == 16) = true by simp [hc]]
        conv => whnf
        rw [en]
        refine ifB_of (fun h5 => ?_) (fun h5 => ?_)
        · rw [if_pos ⟨rfl, by have := of_decide_eq_true h5; omega⟩]
          conv => whnf
          refine ⟨[], [0], rfl, ?_, rfl⟩
          show AV.tup [AV.ro 2 ((rows.drop 0).take rows.length), _] = _
          rw [ro_take]; rfl
        · rw [if_neg (fun hh => by have := of_decide_eq_false h5; omega)]
          conv => whnf
          refine ⟨[], [0], rfl, ?_, rfl⟩
          show AV.tup [AV.ro 2 ((rows.drop 0).take rows.length), _] = _
          rw [ro_take]; rfl
    · rw [if_neg hc] at hl hu
      rw [Int.toNat_natCast] at hl hu
      rw [hrows]
      have hfin : L = (A ++ [(c, d)]) ++ (unitsL bs f (p + n) n).1 := by rw [hl]; simp
      have hst : ∀ st : St, st = ⟨[(0, .ri .u8 bs), (4, .sl 0 0 (rows.length + 1)), (5, iv (p + n : Nat)), (6, iv n)], [some (.arr 2 (rows ++ [uRow (c, d)]))], 1, 0⟩ →
          st = ⟨[(0, .ri .u8 bs), (4, accV ((A ++ [(c, d)]).map uRow)), (5, iv (p + n : Nat)), (6, iv n)], accH 2 ((A ++ [(c, d)]).map uRow), (accH 2 ((A ++ [(c, d)]).map uRow)).length, 0⟩ := by
        intro st h
        rw [h, uRow_snoc, hrows, accV_snoc, accH_snoc]; rfl
      by_cases hne : rows = []
      · subst hne
        conv => whnf
        refine CallsF.call [] [] ko rfl rfl rfl rfl rfl (.inl rfl) ?_
        conv => whnf
        rw [show (c == 16) = false by simp [hc]]
        conv => whnf
        rw [en]
        refine ⟨f, [0, 4, 5, 6], [2], [], by omega, rfl, ?_⟩
        conv => whnf
        exact ⟨p + n, n, A ++ [(c, d)], by omega, by omega, by rw [List.length_append]; simp; omega, hfin, hu, hst _ rfl⟩
      · rw [accV_cons hne, accH_cons 2 hne]
        conv => whnf
        refine CallsF.call [] [] ko rfl rfl rfl rfl rfl (.inl rfl) ?_
        conv => whnf
        rw [show (c == 16) = false by simp [hc]]
        conv => whnf
        refine need_of ((by rw [Bool.and_eq_true, decide_eq_true_iff]; exact ⟨⟨by omega, (show 33 * (rows.length + 1) ≤ 2 ^ 46 by omega)⟩, rfl⟩)) ?_
        conv => whnf
        rw [en]
        refine ⟨f, [0, 4, 5, 6], [3], [], by omega, rfl, ?_⟩
        conv => whnf
        exact ⟨p + n, n, A ++ [(c, d)], by omega, by omega, by rw [List.length_append]; simp; omega, hfin, hu, hst _ rfl⟩
  · rw [if_neg he] at ko
    rw [unitsL, if_neg he] at hl hu
    obtain ⟨rfl, rfl, -, -⟩ : lookE bs p size = e0 ∧ p = p0 ∧ size = s0 ∧ false = d0 := by simpa using hu
    simp only [List.append_nil] at hl
    subst hl
    obtain ⟨rows, hrows⟩ : ∃ rows, L.map uRow = rows := ⟨_, rfl⟩
    rw [if_neg (fun h => he h.1), hrows]
    clear hr hu
    generalize lookE bs p size = e at *
    unfold noneV at ko
    by_cases hne : rows = []
    · subst hne
      rw [unitsV_nil hrows]
      conv => whnf
      refine CallsF.call [] [] ko rfl rfl rfl rfl rfl (.inl rfl) ?_
      conv => whnf
      rw [show (e != 0) = true by simp [he]]
      conv => whnf
      exact ⟨[], [], rfl, rfl, rfl⟩
    · rw [unitsV_cons hrows hne, accV_cons hne, accH_cons 2 hne]
      conv => whnf
      refine CallsF.call [] [] ko rfl rfl rfl rfl rfl (.inl rfl) ?_
      conv => whnf
      rw [show (e != 0) = true by simp [he]]
      conv => whnf
      refine ⟨[], [0], rfl, ?_, rfl⟩
      show AV.tup [AV.ro 2 ((rows.drop 0).take rows.length), _] = _
      rw [ro_take]; rfl


end Go.Proofs.TryN

