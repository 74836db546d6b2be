/- The document's reader and decoder: the walk. -/
import Derived.Test.YtamgmfinkgdkjaaDoorN5X
import Derived.Test.YtamgmfinkgdkjaaDoorF60
namespace Go.Proofs.TrydN
open Go Go.AL Go.Proofs

/-- The bits of bytes. -/
def bitsS (bs : List Int) : List Bool := (List.range (8 * bs.length)).map (rdB bs)
theorem bitsS_len (bs : List Int) : (bitsS bs).length = 8 * bs.length := by simp [bitsS]
theorem bitsS_at {bs : List Int} {i : Nat} (h : i < (bitsS bs).length) : (bitsS bs)[i] = rdB bs i := by simp [bitsS]

theorem aop_appS_nil {tm : List (Nat × AV)} {hp : AHeap} {hn bytes : Nat} {x y : Opd} {O : ByteArray} {a : Int} {r : List Int} (hO : numsOf O = a :: r) (hx : ev tm x = .snil) (hy : ev tm y = .str O) :
    aop tm hp hn (.appendS bytes x y) = some (decide ((bytes + 1) * (r.length + 1) ≤ 2 ^ 46), .sl hn 0 (r.length + 1), .push (.ia .u8 (a :: r))) := by simp [aop, hx, hy, hO]
theorem aop_appS_sl {tm : List (Nat × AV)} {hp : AHeap} {hn bytes : Nat} {x y : Opd} {O : ByteArray} {a : Int} {r xs : List Int} {b i l : Nat} (hO : numsOf O = a :: r) (hx : ev tm x = .sl b i l) (hy : ev tm y = .str O) (hb : nth hp b = some (some (.ia .u8 xs))) :
    aop tm hp hn (.appendS bytes x y) = some (decide (i + l = xs.length ∧ (bytes + 1) * (l + (r.length + 1)) ≤ 2 ^ 46), .sl hn 0 (l + (r.length + 1)), .move b (.ia .u8 (xs.drop i ++ a :: r))) := by simp [aop, hx, hy, hO, hb, sameKind]

def chI (b : Bool) : Int := match b with | true => 49 | false => 48
theorem nums_sB (l : List Bool) : numsOf (sB l) = l.map chI := by
  unfold numsOf sB
  rw [List.map_map]
  apply List.map_congr_left
  intro b _
  cases b <;> rfl
theorem str_chI (l : List Bool) : strOfNums (l.map chI) = sB l := by
  apply ByteArray.ext
  apply Array.ext'
  rw [strOfNums_data, List.map_map]
  show _ = l.map chB
  apply List.map_congr_left
  intro b _
  cases b <;> rfl

theorem bits_spec {v : Int} (h0 : 0 ≤ v) (h1 : v < 2 ^ 63) {n : Nat} (hn : n ≤ 60) : CallsF Tryd.prog 67 [.int .u64 v, iv n] [] (.str (sB (bitsOf v n))) [] := by
  refine e67 ?_
  conv => whnf
  refine LoopA.inv (fun k st => ∃ i : Nat, i + k = n ∧ st = ⟨[(0, .int .u64 (v / 2 ^ i)), (1, iv n), (5, .str (sB (bitsOf v i))), (6, iv i)], [], 0, 0⟩) n [0, 1, 5, 6] [] [] (by rfl) ?_ ?_
  · conv => whnf
    refine ⟨0, by omega, ?_⟩
    rw [Int.pow_zero, Int.ediv_one]
    rfl
  rintro k st ⟨i, hi, rfl⟩
  have p : (0 : Int) < 2 ^ i := Int.pow_pos (by omega)
  have q0 := Int.ediv_nonneg h0 (Int.le_of_lt p)
  have q1 := Int.ediv_le_self (2 ^ i) h0
  have hlen := bitsOf_len v i
  have hdiv : v / 2 ^ i / 2 = v / 2 ^ (i + 1) := by rw [Int.pow_succ, Int.ediv_ediv_of_nonneg (Int.le_of_lt p)]
  conv => whnf
  refine ifB_of (fun hd => ?_) (fun hd => ?_)
  · have hd := of_decide_eq_true hd
    conv => whnf
    rw [show decide (((i : Nat) : Int) < 64) = true from decide_eq_true (by omega)]
    conv => whnf
    rw [Int.tmod_eq_emod_of_nonneg q0]
    by_cases hb : v / 2 ^ i % 2 = 1
    · rw [show (v / 2 ^ i % 2 == 1) = true from beq_iff_eq.2 hb]
      conv => whnf
      refine need_of ((decide_eq_true (by show 1 + (sB _).size ≤ 9223372036854775807; rw [sB_size]; omega))) ?_
      conv => whnf
      rw [Int.tdiv_eq_ediv_of_nonneg q0, wrap_u64 (n := v / 2 ^ i / 2) (by omega) (by omega), inc_nat (by omega), hdiv]
      refine ⟨(n - (i + 1)), [0, 1, 5, 6], [], [], by omega, rfl, ?_⟩
      conv => whnf
      refine ⟨i + 1, by omega, ?_⟩
      rw [show bitsOf v (i + 1) = [true] ++ bitsOf v i by show _ :: _ = _; rw [decide_eq_true hb]; rfl, ← sB_app]
      rfl
    · rw [show (v / 2 ^ i % 2 == 1) = false from beq_eq_false_iff_ne.2 hb]
      conv => whnf
      refine need_of ((decide_eq_true (by show 1 + (sB _).size ≤ 9223372036854775807; rw [sB_size]; omega))) ?_
      conv => whnf
      rw [Int.tdiv_eq_ediv_of_nonneg q0, wrap_u64 (n := v / 2 ^ i / 2) (by omega) (by omega), inc_nat (by omega), hdiv]
      refine ⟨(n - (i + 1)), [0, 1, 5, 6], [], [], by omega, rfl, ?_⟩
      conv => whnf
      refine ⟨i + 1, by omega, ?_⟩
      rw [show bitsOf v (i + 1) = [false] ++ bitsOf v i by show _ :: _ = _; rw [decide_eq_false hb]; rfl, ← sB_app]
      rfl
  · have hd := of_decide_eq_false hd
    obtain rfl : i = n := by omega
    conv => whnf
    exact ⟨[], [], rfl, rfl, rfl⟩

/-- The bits of the first bytes. -/
def bitsP (bs : List Int) (i : Nat) : List Bool := (List.range (8 * i)).map (rdB bs)
theorem bitsP_succ {bs : List Int} {i : Nat} (h : i < bs.length) : bitsP bs (i + 1) = bitsP bs i ++ bitsOf bs[i] 8 := by
  have hg : bs.getD i 0 = bs[i] := by simp [List.getD, h]
  have hb : ∀ j, j < 8 → rdB bs (8 * i + j) = decide (bs[i] / 2 ^ (7 - j) % 2 = 1) := fun j hj => by
    unfold rdB
    rw [show (8 * i + j) / 8 = i by omega, show (8 * i + j) % 8 = j by omega, hg]
  unfold bitsP
  rw [show 8 * (i + 1) = 8 * i + 8 by omega, List.range_add, List.map_append, List.map_map]
  congr 1
  show [rdB bs (8 * i + 0), rdB bs (8 * i + 1), rdB bs (8 * i + 2), rdB bs (8 * i + 3), rdB bs (8 * i + 4), rdB bs (8 * i + 5), rdB bs (8 * i + 6), rdB bs (8 * i + 7)] = _
  rw [hb 0 (by omega), hb 1 (by omega), hb 2 (by omega), hb 3 (by omega), hb 4 (by omega), hb 5 (by omega), hb 6 (by omega), hb 7 (by omega)]
  rfl
theorem bitsP_all (bs : List Int) : bitsP bs bs.length = bitsS bs := rfl
theorem bitsP_len (bs : List Int) (i : Nat) : (bitsP bs i).length = 8 * i := by simp [bitsP]

theorem all_spec {v : AV} {bs : List Int} (h : asB v bs) (hk : okB bs) (hb : bs.length < 4294967290) : CallsF Tryd.prog 63 [v] [] (.str (sB (bitsS bs))) [] := by
  rcases h with ⟨rfl, rfl⟩ | ⟨rfl, rfl⟩ | ⟨rfl, h⟩ | ⟨rfl, rfl⟩
  · refine e63 ?_
    conv => whnf
    refine LoopA.inv (fun _ st => st = ⟨[(3, .snil), (6, .snil), (7, iv 0), (8, iv 0)], [], 0, 0⟩) 0 [3, 6, 7, 8] [] [] (by rfl) ?_ ?_
    · conv => whnf
      exact rfl
    rintro k st rfl
    conv => whnf
    exact ⟨[], [], rfl, rfl, rfl⟩
  · refine e63 ?_
    conv => whnf
    refine LoopA.inv (fun _ st => st = ⟨[(3, .snil), (6, .semp), (7, iv 0), (8, iv 0)], [], 0, 0⟩) 0 [3, 6, 7, 8] [] [] (by rfl) ?_ ?_
    · conv => whnf
      exact rfl
    rintro k st rfl
    conv => whnf
    exact ⟨[], [], rfl, rfl, rfl⟩
  · have hpos : 0 < bs.length := by cases bs <;> simp at h ⊢
    refine e63 ?_
    conv => whnf
    refine LoopA.inv (fun k st => ∃ i : Nat, i + k = bs.length ∧ ((i = 0 ∧ st = ⟨[(3, .snil), (6, .ri .u8 bs), (7, iv bs.length), (8, iv 0)], [], 0, 0⟩) ∨ (i ≠ 0 ∧ st = ⟨[(3, .sl 0 0 (8 * i)), (6, .ri .u8 bs), (7, iv bs.length), (8, iv i)], [some (.ia .u8 ((bitsP bs i).map chI))], 1, 0⟩))) bs.length [3, 6, 7, 8] [] [] (by rfl) ?_ ?_
    · conv => whnf
      exact ⟨0, by omega, .inl ⟨rfl, rfl⟩⟩
    have step : ∀ i (h : i < bs.length), CallsF Tryd.prog 67 [.int .u64 (IntKind.wrap .u64 (bs.getD i 0)), iv 8] [] (.str (sB (bitsOf bs[i] 8))) [] := fun i h => by
      have hg : bs.getD i 0 = bs[i] := by simp [List.getD, h]
      have hki := hk bs[i] (List.getElem_mem _)
      rw [hg, wrap_u64 hki.1 (by omega)]
      exact bits_spec (n := 8) hki.1 (by omega) (by omega)
    rintro k st ⟨i, hi, ⟨hi0, rfl⟩ | ⟨hi0, rfl⟩⟩
    · subst hi0
      have st := step 0 hpos
      obtain ⟨O, hO⟩ : ∃ O, O = sB (bitsOf bs[0] 8) := ⟨_, rfl⟩
      rw [← hO] at st
      obtain ⟨a, r, hr⟩ : ∃ a r, numsOf O = a :: r := by rw [hO, nums_sB]; exact ⟨_, _, rfl⟩
      have hrl : r.length = 7 := by have := congrArg List.length hr; rw [hO, nums_sB] at this; simp [bitsOf_len] at this; omega
      conv => whnf
      refine ifB_of (fun hd => ?_) (fun hd => ?_)
      · have hd := of_decide_eq_true hd
        conv => whnf
        refine need_of ((decide_eq_true ⟨by omega, by omega⟩)) ?_
        conv => whnf
        refine CallsF.call [] [] (st) rfl rfl rfl rfl rfl (.inl rfl) ?_
        conv => whnf
        rw [aop_appS_nil hr rfl rfl]
        conv => whnf
        refine need_of ((decide_eq_true (by omega))) ?_
        conv => whnf
        refine ⟨(bs.length - 1), [3, 6, 7, 8], [0], [], by omega, rfl, ?_⟩
        conv => whnf
        refine ⟨1, by omega, .inr ⟨by omega, ?_⟩⟩
        rw [bitsP_succ hpos, show bitsP bs 0 = [] from rfl, List.nil_append, ← nums_sB, ← hO, hr, hrl]
        rfl
      · have hd := of_decide_eq_false hd
        omega
    · conv => whnf
      refine ifB_of (fun hd => ?_) (fun hd => ?_)
      · have hd : i < bs.length := by have := of_decide_eq_true hd; omega
        have st := step i hd
        obtain ⟨O, hO⟩ : ∃ O, O = sB (bitsOf bs[i] 8) := ⟨_, rfl⟩
        rw [← hO] at st
        obtain ⟨a, r, hr⟩ : ∃ a r, numsOf O = a :: r := by rw [hO, nums_sB]; exact ⟨_, _, rfl⟩
        have hrl : r.length = 7 := by have := congrArg List.length hr; rw [hO, nums_sB] at this; simp [bitsOf_len] at this; omega
        conv => whnf
        refine need_of ((decide_eq_true ⟨by omega, by omega⟩)) ?_
        conv => whnf
        rw [Int.toNat_natCast]
        refine CallsF.call [] [] (st) rfl rfl rfl rfl rfl (.inl rfl) ?_
        conv => whnf
        rw [aop_appS_sl hr rfl rfl rfl]
        conv => whnf
        refine need_of ((decide_eq_true ⟨by simp [bitsP_len], by omega⟩)) ?_
        conv => whnf
        rw [inc_nat (by omega)]
        refine ⟨(bs.length - (i + 1)), [3, 6, 7, 8], [1], [], by omega, rfl, ?_⟩
        conv => whnf
        refine ⟨i + 1, by omega, .inr ⟨by omega, ?_⟩⟩
        rw [bitsP_succ hd, List.map_append, ← nums_sB (bitsOf bs[i] 8), ← hO, hr, hrl]
        rfl
      · have hd := of_decide_eq_false hd
        obtain rfl : i = bs.length := by omega
        conv => whnf
        rw [List.drop_zero, List.take_of_length_le (by simp [bitsP_len]), str_chI, bitsP_all]
        exact ⟨[], [], rfl, rfl, rfl⟩
  · refine e63 ?_
    conv => whnf
    refine LoopA.inv (fun _ st => st = ⟨[(3, .snil), (6, .emp), (7, iv 0), (8, iv 0)], [], 0, 0⟩) 0 [3, 6, 7, 8] [] [] (by rfl) ?_ ?_
    · conv => whnf
      exact rfl
    rintro k st rfl
    conv => whnf
    exact ⟨[], [], rfl, rfl, rfl⟩

/-- A document's decoder. -/
abbrev rX (k n : Nat) (low size code : Int) (cnt : Nat) (src : List Int) (pos over : Nat) : Option ABlk := some (.box [.sl k 0 n, iv low, iv size, iv code, iv cnt, .str (sB (bitsS src)), iv pos, iv over])
abbrev rD (k : Nat) (d : Dec) : Option ABlk := rX k d.p.length d.low d.size d.code d.n d.src d.pos d.over

theorem chB_sub2 (b : Bool) : IntKind.wrap .i64 (IntKind.wrap .u8 (((chB b).toNat : Int) - 48)) = b2i b := by cases b <;> rfl

theorem rbit5_spec (n : Nat) (low size code : Int) (cnt : Nat) (src : List Int) {pos over : Nat} (hp : pos < 4294967290) (ho : over < 4294967290) (p : List Int) : CallsF Tryd.prog 66 [.bp 0 5] [rX 1 n low size code cnt src pos over, pD p] (iv (b2i (rdB src pos))) [rX 1 n low size code cnt src (pos + 1) (over + over1 src pos), pD p] := by
  refine e66 ?_
  conv => whnf
  rw [inc_nat (by omega), sB_size, bitsS_len]
  refine ifB_of (fun hd => ?_) (fun hd => ?_)
  · have hd := of_decide_eq_true hd
    conv => whnf
    rw [inc_nat (by omega)]
    refine ⟨[], [], rfl, ?_, ?_⟩
    · rw [rd_out (by omega)]; rfl
    · rw [show over1 src pos = 1 by unfold over1; rw [if_pos (by omega)]]; rfl
  · have hd := of_decide_eq_false hd
    conv => whnf
    refine need_of ((decide_eq_true ⟨by omega, by rw [sB_size, bitsS_len]; omega⟩)) ?_
    conv => whnf
    rw [Int.toNat_natCast, sB_at (by rw [bitsS_len]; omega), bitsS_at, chB_sub2]
    refine ⟨[], [], rfl, rfl, ?_⟩
    rw [show over1 src pos = 0 by unfold over1; rw [if_neg (by omega)]]; rfl

theorem rget5_spec (n : Nat) (low size code : Int) (cnt : Nat) (src : List Int) (p : List Int) : CallsF Tryd.prog 64 [.bp 0 5, iv 16] [rX 1 n low size code cnt src 0 0, pD p] (.int .u64 (valN src 0 16)) [rX 1 n low size code cnt src 16 (overN src 0 16), pD p] := by
  refine e64 ?_
  conv => whnf
  refine LoopA.inv (fun k st => ∃ i : Nat, i + k = 16 ∧ st = ⟨[(0, .bp 0 5), (1, iv 16), (5, .int .u64 (valN src 0 i)), (6, iv i)], [rX 1 n low size code cnt src i (overN src 0 i), pD p], 2, 2⟩) 16 [0, 1, 5, 6] [] [] (by rfl) ?_ ?_
  · conv => whnf
    exact ⟨0, by omega, rfl⟩
  rintro k st ⟨i, hi, rfl⟩
  have hv : 0 ≤ valN src 0 i ∧ valN src 0 i < 65536 := by
    have h1 := valN_in src 0 i
    have h2 : (2 : Int) ^ i ≤ 2 ^ 16 := by
      have : (2 : Nat) ^ i ≤ 2 ^ 16 := Nat.pow_le_pow_right (by omega) (by omega)
      exact_mod_cast this
    omega
  have ho : overN src 0 i ≤ i := by
    clear hv hi
    induction i with
    | zero => exact Nat.le_refl _
    | succ i ih => rw [overN]; have : over1 src (0 + i) ≤ 1 := by (unfold over1; split <;> omega)
                   omega
  have hbi := b2i_in (rdB src i)
  conv => whnf
  refine ifB_of (fun hd => ?_) (fun hd => ?_)
  · have hd := of_decide_eq_true hd
    conv => whnf
    rw [show decide (((i : Nat) : Int) < 64) = true from decide_eq_true (by omega)]
    conv => whnf
    refine CallsF.call [0, 1] [] (rbit5_spec n low size code cnt src (pos := i) (over := overN src 0 i) (by omega) (by omega) p) rfl rfl rfl rfl rfl (.inl rfl) ?_
    conv => whnf
    rw [wrap_u64 (n := b2i (rdB src i)) (by omega) (by omega), wrap_u64 (n := 2 * valN src 0 i) (by omega) (by omega), wrap_u64 (by omega) (by omega), inc_nat (by omega)]
    refine ⟨(16 - (i + 1)), [0, 1, 5, 6], [], [], by omega, rfl, ?_⟩
    conv => whnf
    refine ⟨i + 1, by omega, ?_⟩
    simp only [valN, overN, Nat.zero_add]
  · have hd := of_decide_eq_false hd
    obtain rfl : i = 16 := by omega
    conv => whnf
    exact ⟨[], [], rfl, rfl, rfl⟩

theorem newD5_spec {v : AV} {bs : List Int} (h : asB v bs) (hk : okB bs) (hb : bs.length < 4294967290) (c : Int) : CallsF Tryd.prog 22 [v, iv c] [] (.bp 0 0) [rD 1 (Dec.new bs c), pD (freshP c)] := by
  have hv : 0 ≤ valN bs 0 16 ∧ valN bs 0 16 < 65536 := by have := valN_in bs 0 16; omega
  have al := all_spec h hk hb
  rcases h with ⟨rfl, rfl⟩ | ⟨rfl, rfl⟩ | ⟨rfl, h⟩ | ⟨rfl, rfl⟩
  all_goals
    refine e22 ?_
    conv => whnf
    refine CallsF.call [] [] (fresh5_spec c) rfl rfl rfl rfl rfl (.inl rfl) ?_
    conv => whnf
    refine CallsF.call [] [] (al) rfl rfl rfl rfl rfl (.inl rfl) ?_
    conv => whnf
    refine CallsF.call [1, 0] [] (rget5_spec (freshP c).length 0 65536 0 0 _ (freshP c)) rfl rfl rfl rfl rfl (.inl rfl) ?_
    conv => whnf
    rw [wrap_id (by omega) (by omega)]
    exact ⟨[1, 0], [], rfl, rfl, rfl⟩

/-! A bit told. -/

theorem rD_take (k : Nat) (d : Dec) (c : Int) (b : Bool) : rD k (d.take c b) = rX k d.p.length (lowT d.low (partN d.size (chance d.p c)) b) (sizeT d.size (partN d.size (chance d.p c)) b) d.code (d.n + 1) d.src d.pos d.over := by
  show rX k (learnP d.p c b).length _ _ _ _ _ _ _ = _
  rw [learn_len]
  rfl

set_option maxRecDepth 10000 in
set_option maxHeartbeats 1000000 in
theorem dget5_spec (d : Dec) (h : okD d) (hpl : d.p.length < 4294967296) (c : Int) : CallsF Tryd.prog 24 [.bp 0 0, iv c] [rD 1 d, pD d.p] (.bool (d.told c)) [rD 2 (d.get c), none, pD (d.get c).p] := by
  obtain ⟨hS, hbig, hn, hc0, hc1, hk, hb, hpos, hover⟩ := h
  obtain ⟨hp, hl0, hs0, htop⟩ := hS
  have hS : okS d.p d.low d.size := ⟨hp, hl0, hs0, htop⟩
  unfold Dec.get Dec.told
  refine m24 1 ?_
  conv => whnf
  cases hc : hasC d.p c
  · have hc2 := hasC_no hc
    by_cases h0 : c < 0
    · rw [show decide (c < 0) = true from decide_eq_true h0]
      conv => whnf
      exact ⟨[1], [], rfl, rfl, rfl⟩
    · rw [show decide (c < 0) = false from decide_eq_false h0]
      conv => whnf
      rw [show decide (c ≥ (d.p.length : Int)) = true from decide_eq_true (by omega)]
      conv => whnf
      exact ⟨[1], [], rfl, rfl, rfl⟩
  have hq := hS.chance hc
  have hc2 := chance_at hc
  have kp := partN_in hbig (by omega) hq
  rw [show decide (c < 0) = false from decide_eq_false (by omega)]
  conv => whnf
  rw [show decide (c ≥ (d.p.length : Int)) = false from decide_eq_false (by omega)]
  conv => whnf
  refine need_of ((decide_eq_true ⟨by omega, by omega⟩)) ?_
  conv => whnf
  refine need_of ((decide_eq_true (by omega))) ?_
  conv => whnf
  rw [Nat.zero_add c.toNat, show d.p.getD c.toNat 0 = chance d.p c from rfl, part5_eq hbig (by omega) hq, wrap_id (n := d.code - d.low) (by omega) (by omega)]
  rw [show decide (d.code - d.low ≥ partN d.size (chance d.p c)) = d.bit c from rfl]
  have hS2 := hS.take hbig hc (d.bit c)
  have hcode : lowT d.low (partN d.size (chance d.p c)) (d.bit c) ≤ d.code ∧ d.code < lowT d.low (partN d.size (chance d.p c)) (d.bit c) + sizeT d.size (partN d.size (chance d.p c)) (d.bit c) := by
    cases hbb : d.bit c
    · have := of_decide_eq_false hbb
      simp only [lowT, sizeT]; omega
    · have := of_decide_eq_true hbb
      simp only [lowT, sizeT]; omega
  generalize d.bit c = b at *
  generalize ht : (d.take c b).norm 16 = T
  cases b
  · conv => whnf
    refine CallsF.call [] [] (more4_spec hq) rfl rfl rfl rfl rfl (.inl rfl) ?_
    conv => whnf
    refine ⟨.inl ⟨_, rfl⟩, ?_⟩
    conv => whnf
    refine CallsF.call [1] [] (set_spec _ hc hpl) rfl rfl rfl rfl rfl (.inl rfl) ?_
    conv => whnf
    rw [inc_nat (by omega)]
    refine LoopA.inv (fun k st => ∃ d' : Dec, d'.norm k = T ∧ okS d'.p d'.low d'.size ∧ 16384 < d'.size * 2 ^ k ∧ (d'.low ≤ d'.code ∧ d'.code < d'.low + d'.size) ∧ d'.pos + k ≤ 1073741900 ∧ d'.over + k ≤ 1073741900 ∧ st = ⟨[(0, .bp 0 0), (7, .bool false)], [rD 1 d', pD d'.p], 2, 1⟩) 16 [0, 7] [2] [] (by rfl) ?_ ?_
    · conv => whnf
      exact ⟨d.take c false, ht, hS2, by have := hS2.s0; show 16384 < (d.take c false).size * 65536; unfold Dec.take; simp only; omega, hcode, by simp only [Dec.take]; omega, by simp only [Dec.take]; omega, by rw [rD_take]; rfl⟩
    rintro k st ⟨d', h1, h2, h3, h4, h6, h7, rfl⟩
    obtain ⟨hp', hl0', hs0', htop'⟩ := h2
    have h2 : okS d'.p d'.low d'.size := ⟨hp', hl0', hs0', htop'⟩
    conv => whnf
    refine ifB_of (fun hd => ?_) (fun hd => ?_)
    · have hd := of_decide_eq_true hd
      obtain ⟨k, rfl⟩ : ∃ k', k = k' + 1 := ⟨k - 1, by
        rcases k with _ | k
        · simp at h3; omega
        · omega⟩
      have h8 : 16384 < 2 * d'.size * 2 ^ k := by
        rw [Int.pow_succ] at h3
        have : d'.size * (2 ^ k * 2) = 2 * d'.size * 2 ^ k := by rw [← Int.mul_assoc, Int.mul_comm (d'.size * 2 ^ k) 2, Int.mul_assoc]
        omega
      have h9 := h2.shift hd
      rw [Dec.norm_step hd] at h1
      have cs := code_shift hl0' htop' hd h4.1 h4.2 (rdB d'.src d'.pos)
      have b01 := b2i_in (rdB d'.src d'.pos)
      have o1 : over1 d'.src d'.pos ≤ 1 := by unfold over1; split <;> omega
      have fin : ∀ low code : Int, low = lowS d'.low d'.size → code = codeS d'.low d'.size d'.code + b2i (rdB d'.src d'.pos) → ∃ d2 : Dec, d2.norm k = T ∧ okS d2.p d2.low d2.size ∧ 16384 < d2.size * 2 ^ k ∧ (d2.low ≤ d2.code ∧ d2.code < d2.low + d2.size) ∧ d2.pos + k ≤ 1073741900 ∧ d2.over + k ≤ 1073741900 ∧
          (⟨[(0, .bp 0 0), (7, .bool false)], [rX 1 d'.p.length low (2 * d'.size) code d'.n d'.src (d'.pos + 1) (d'.over + over1 d'.src d'.pos), pD d'.p], 2, 1⟩ : St) = ⟨[(0, .bp 0 0), (7, .bool false)], [rD 1 d2, pD d2.p], 2, 1⟩ := by
        rintro low code rfl rfl
        exact ⟨d'.shift, h1, h9, h8, ⟨by show lowS d'.low d'.size ≤ codeS d'.low d'.size d'.code + b2i (rdB d'.src d'.pos); omega, by show codeS d'.low d'.size d'.code + b2i (rdB d'.src d'.pos) < lowS d'.low d'.size + 2 * d'.size; omega⟩, by show d'.pos + 1 + k ≤ _; omega, by show d'.over + over1 d'.src d'.pos + k ≤ _; omega, rfl⟩
      conv => whnf
      rw [top5_eq hl0' (by omega), strad5_eq hl0' hs0' htop']
      cases hs : strad d'.low d'.size
      · conv => whnf
        rw [dbl5_eq hl0' (by omega), dbl5_eq (v := d'.code) (by omega) (by omega)]
        refine CallsF.call [0, 1] [] (rbit5_spec d'.p.length (2 * d'.low % 65536) d'.size d'.code d'.n d'.src (pos := d'.pos) (over := d'.over) (by omega) (by omega) d'.p) rfl rfl rfl rfl rfl (.inl rfl) ?_
        conv => whnf
        refine ⟨.inr (by repeat (first | exact same_nil | refine same_of rfl ?_)), ?_⟩
        conv => whnf
        rw [wrap_id (n := 2 * d'.code % 65536 + b2i (rdB d'.src d'.pos)) (by omega) (by omega), wrap_id (n := 2 * d'.size) (by omega) (by omega)]
        refine ⟨k, [0, 7], [1], [], by omega, rfl, ?_⟩
        conv => whnf
        exact fin _ _ (by simp [lowS, hs]) (by simp [codeS, hs])
      · have htn := turnN_in hl0' (show d'.low < 65536 by omega)
        have hun := turnN_in (v := d'.code) (by omega) (by omega)
        conv => whnf
        refine CallsF.call [] [] (turn5_spec hl0' (by omega)) rfl rfl rfl rfl rfl (.inl rfl) ?_
        conv => whnf
        refine CallsF.call [] [] (turn5_spec (v := d'.code) (by omega) (by omega)) rfl rfl rfl rfl rfl (.inl rfl) ?_
        conv => whnf
        rw [dbl5_eq htn.1 htn.2, dbl5_eq (v := turnN d'.code) hun.1 hun.2]
        refine CallsF.call [0, 1] [] (rbit5_spec d'.p.length (2 * turnN d'.low % 65536) d'.size (turnN d'.code) d'.n d'.src (pos := d'.pos) (over := d'.over) (by omega) (by omega) d'.p) rfl rfl rfl rfl rfl (.inl rfl) ?_
        conv => whnf
        refine ⟨.inr (by repeat (first | exact same_nil | refine same_of rfl ?_)), ?_⟩
        conv => whnf
        rw [wrap_id (n := 2 * turnN d'.code % 65536 + b2i (rdB d'.src d'.pos)) (by omega) (by omega), wrap_id (n := 2 * d'.size) (by omega) (by omega)]
        refine ⟨k, [0, 7], [1], [], by omega, rfl, ?_⟩
        conv => whnf
        exact fin _ _ (by simp [lowS, hs]) (by simp [codeS, hs])
    · have hd := of_decide_eq_false hd
      rw [Dec.norm_done hd] at h1
      subst h1
      conv => whnf
      exact ⟨[1], [], rfl, rfl, rfl⟩
  · conv => whnf
    rw [wrap_id (n := d.low + partN d.size (chance d.p c)) (by omega) (by omega), wrap_id (n := d.size - partN d.size (chance d.p c)) (by omega) (by omega)]
    refine CallsF.call [] [] (less4_spec hq) rfl rfl rfl rfl rfl (.inl rfl) ?_
    conv => whnf
    refine ⟨.inl ⟨_, rfl⟩, ?_⟩
    conv => whnf
    refine CallsF.call [1] [] (set_spec _ hc hpl) rfl rfl rfl rfl rfl (.inl rfl) ?_
    conv => whnf
    rw [inc_nat (by omega)]
    refine LoopA.inv (fun k st => ∃ d' : Dec, d'.norm k = T ∧ okS d'.p d'.low d'.size ∧ 16384 < d'.size * 2 ^ k ∧ (d'.low ≤ d'.code ∧ d'.code < d'.low + d'.size) ∧ d'.pos + k ≤ 1073741900 ∧ d'.over + k ≤ 1073741900 ∧ st = ⟨[(0, .bp 0 0), (7, .bool true)], [rD 1 d', pD d'.p], 2, 1⟩) 16 [0, 7] [2] [] (by rfl) ?_ ?_
    · conv => whnf
      exact ⟨d.take c true, ht, hS2, by have := hS2.s0; show 16384 < (d.take c true).size * 65536; unfold Dec.take; simp only; omega, hcode, by simp only [Dec.take]; omega, by simp only [Dec.take]; omega, by rw [rD_take]; rfl⟩
    rintro k st ⟨d', h1, h2, h3, h4, h6, h7, rfl⟩
    obtain ⟨hp', hl0', hs0', htop'⟩ := h2
    have h2 : okS d'.p d'.low d'.size := ⟨hp', hl0', hs0', htop'⟩
    conv => whnf
    refine ifB_of (fun hd => ?_) (fun hd => ?_)
    · have hd := of_decide_eq_true hd
      obtain ⟨k, rfl⟩ : ∃ k', k = k' + 1 := ⟨k - 1, by
        rcases k with _ | k
        · simp at h3; omega
        · omega⟩
      have h8 : 16384 < 2 * d'.size * 2 ^ k := by
        rw [Int.pow_succ] at h3
        have : d'.size * (2 ^ k * 2) = 2 * d'.size * 2 ^ k := by rw [← Int.mul_assoc, Int.mul_comm (d'.size * 2 ^ k) 2, Int.mul_assoc]
        omega
      have h9 := h2.shift hd
      rw [Dec.norm_step hd] at h1
      have cs := code_shift hl0' htop' hd h4.1 h4.2 (rdB d'.src d'.pos)
      have b01 := b2i_in (rdB d'.src d'.pos)
      have o1 : over1 d'.src d'.pos ≤ 1 := by unfold over1; split <;> omega
      have fin : ∀ low code : Int, low = lowS d'.low d'.size → code = codeS d'.low d'.size d'.code + b2i (rdB d'.src d'.pos) → ∃ d2 : Dec, d2.norm k = T ∧ okS d2.p d2.low d2.size ∧ 16384 < d2.size * 2 ^ k ∧ (d2.low ≤ d2.code ∧ d2.code < d2.low + d2.size) ∧ d2.pos + k ≤ 1073741900 ∧ d2.over + k ≤ 1073741900 ∧
          (⟨[(0, .bp 0 0), (7, .bool true)], [rX 1 d'.p.length low (2 * d'.size) code d'.n d'.src (d'.pos + 1) (d'.over + over1 d'.src d'.pos), pD d'.p], 2, 1⟩ : St) = ⟨[(0, .bp 0 0), (7, .bool true)], [rD 1 d2, pD d2.p], 2, 1⟩ := by
        rintro low code rfl rfl
        exact ⟨d'.shift, h1, h9, h8, ⟨by show lowS d'.low d'.size ≤ codeS d'.low d'.size d'.code + b2i (rdB d'.src d'.pos); omega, by show codeS d'.low d'.size d'.code + b2i (rdB d'.src d'.pos) < lowS d'.low d'.size + 2 * d'.size; omega⟩, by show d'.pos + 1 + k ≤ _; omega, by show d'.over + over1 d'.src d'.pos + k ≤ _; omega, rfl⟩
      conv => whnf
      rw [top5_eq hl0' (by omega), strad5_eq hl0' hs0' htop']
      cases hs : strad d'.low d'.size
      · conv => whnf
        rw [dbl5_eq hl0' (by omega), dbl5_eq (v := d'.code) (by omega) (by omega)]
        refine CallsF.call [0, 1] [] (rbit5_spec d'.p.length (2 * d'.low % 65536) d'.size d'.code d'.n d'.src (pos := d'.pos) (over := d'.over) (by omega) (by omega) d'.p) rfl rfl rfl rfl rfl (.inl rfl) ?_
        conv => whnf
        refine ⟨.inr (by repeat (first | exact same_nil | refine same_of rfl ?_)), ?_⟩
        conv => whnf
        rw [wrap_id (n := 2 * d'.code % 65536 + b2i (rdB d'.src d'.pos)) (by omega) (by omega), wrap_id (n := 2 * d'.size) (by omega) (by omega)]
        refine ⟨k, [0, 7], [1], [], by omega, rfl, ?_⟩
        conv => whnf
        exact fin _ _ (by simp [lowS, hs]) (by simp [codeS, hs])
      · have htn := turnN_in hl0' (show d'.low < 65536 by omega)
        have hun := turnN_in (v := d'.code) (by omega) (by omega)
        conv => whnf
        refine CallsF.call [] [] (turn5_spec hl0' (by omega)) rfl rfl rfl rfl rfl (.inl rfl) ?_
        conv => whnf
        refine CallsF.call [] [] (turn5_spec (v := d'.code) (by omega) (by omega)) rfl rfl rfl rfl rfl (.inl rfl) ?_
        conv => whnf
        rw [dbl5_eq htn.1 htn.2, dbl5_eq (v := turnN d'.code) hun.1 hun.2]
        refine CallsF.call [0, 1] [] (rbit5_spec d'.p.length (2 * turnN d'.low % 65536) d'.size (turnN d'.code) d'.n d'.src (pos := d'.pos) (over := d'.over) (by omega) (by omega) d'.p) rfl rfl rfl rfl rfl (.inl rfl) ?_
        conv => whnf
        refine ⟨.inr (by repeat (first | exact same_nil | refine same_of rfl ?_)), ?_⟩
        conv => whnf
        rw [wrap_id (n := 2 * turnN d'.code % 65536 + b2i (rdB d'.src d'.pos)) (by omega) (by omega), wrap_id (n := 2 * d'.size) (by omega) (by omega)]
        refine ⟨k, [0, 7], [1], [], by omega, rfl, ?_⟩
        conv => whnf
        exact fin _ _ (by simp [lowS, hs]) (by simp [codeS, hs])
    · have hd := of_decide_eq_false hd
      rw [Dec.norm_done hd] at h1
      subst h1
      conv => whnf
      exact ⟨[1], [], rfl, rfl, rfl⟩

end Go.Proofs.TrydN

