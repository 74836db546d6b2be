/- Layer 5: chances and spans: the walk. -/
import Derived.Test.YtamgmfinkgdkjaaDoorN5F
namespace Go.Proofs.TrydN
open Go Go.AL Go.Proofs

/-- The cells of an encoder, of a decoder. -/
abbrev cB (p : List Int) (n : Nat) (low size x : Int) : Option ABlk := some (.box [.sl 1 0 p.length, iv n, iv low, iv size, iv x, .bp 2 0])
abbrev pD (p : List Int) : Option ABlk := some (.ia .i64 p)

theorem part_spec (low : Int) {size q : Int} (h0 : 16384 < size) (h1 : size ≤ 65536) (hq : okP q) : CallsF Tryd.prog 43 [.agg [iv low, iv size], iv q] [] (iv (partN size q)) [] := by
  have k := partN_in h0 h1 hq
  refine e43 ?_
  conv => whnf
  refine ⟨[], [], rfl, congrArg iv ?_, rfl⟩
  rw [wrap_id (n := size * q) (by omega) (by omega)]
  exact shr16

theorem strad_spec {low size : Int} (h0 : 0 ≤ low) (h1 : 1 ≤ size) (h2 : low + size ≤ 65536) : CallsF Tryd.prog 76 [.agg [iv low, iv size]] [] (.bool (strad low size)) [] := by
  refine e76 ?_
  conv => whnf
  refine ⟨[], [], rfl, congrArg AV.bool ?_, rfl⟩
  rw [wrap_id (n := low + size) (by omega) (by omega), wrap_id (n := low + size - 1) (by omega) (by omega)]
  exact strad_eq h0 h1 h2

theorem has0_spec (p : List Int) (n : Nat) (low size x : Int) (c : Int) : CallsF Tryd.prog 41 [.bp 0 0, iv c] [cB p n low size x, pD p, some (.box [.snil, iv 0])] (.bool (hasC p c)) [cB p n low size x, pD p, some (.box [.snil, iv 0])] := by
  refine e41 ?_
  conv => whnf
  by_cases h0 : 0 ≤ c
  · rw [show decide (c ≥ 0) = true from decide_eq_true h0]
    conv => whnf
    exact ⟨[], [], rfl, congrArg AV.bool (by simp [hasC, h0]), rfl⟩
  · rw [show decide (c ≥ 0) = false from decide_eq_false h0]
    conv => whnf
    exact ⟨[], [], rfl, congrArg AV.bool (by simp [hasC, h0]), rfl⟩

theorem take0_spec (p : List Int) (n : Nat) (low size x : Int) {part : Int} (h0 : 0 ≤ low) (h1 : low ≤ 65536) (h2 : 0 ≤ size) (h3 : size ≤ 65536) (h4 : 0 ≤ part) (h5 : part ≤ size) (b : Bool) : CallsF Tryd.prog 42 [.bp 0 2, iv part, .bool b] [cB p n low size x, pD p, some (.box [.snil, iv 0])] (.tup []) [cB p n (lowT low part b) (sizeT size part b) x, pD p, some (.box [.snil, iv 0])] := by
  refine e42 ?_
  conv => whnf
  cases b
  · conv => whnf
    exact ⟨[], [], rfl, rfl, rfl⟩
  · conv => whnf
    rw [wrap_id (n := low + part) (by omega) (by omega), wrap_id (n := size - part) (by omega) (by omega)]
    exact ⟨[], [], rfl, rfl, rfl⟩

theorem double0_spec (p : List Int) (n : Nat) (low size x : Int) (h0 : 0 ≤ low) (h1 : low < 65536) (h2 : 0 ≤ size) (h3 : size ≤ 65536) : CallsF Tryd.prog 77 [.bp 0 2] [cB p n low size x, pD p, some (.box [.snil, iv 0])] (.tup []) [cB p n (2 * low % 65536) (2 * size) x, pD p, some (.box [.snil, iv 0])] := by
  refine e77 ?_
  conv => whnf
  rw [dbl_eq h0 h1, shl1_eq h2 h3]
  exact ⟨[], [], rfl, rfl, rfl⟩

theorem learn0_spec (p : List Int) (n : Nat) (low size x : Int) {c : Int} (hc : hasC p c = true) (hq : okP (chance p c)) (hn : n < 4294967296) (b : Bool) : CallsF Tryd.prog 44 [.bp 0 0, iv c, .bool b] [cB p n low size x, pD p, some (.box [.snil, iv 0])] (.tup []) [some (.box [.sl 1 0 p.length, iv (n + 1 : Nat), iv low, iv size, iv x, .bp 2 0]), pD (learnP p c b), some (.box [.snil, iv 0])] := by
  simp only [hasC, Bool.and_eq_true, decide_eq_true_eq] at hc
  obtain ⟨C, rfl⟩ : ∃ C : Nat, c = C := ⟨c.toNat, by omega⟩
  have ht : 0 + ((C : Nat) : Int).toNat = ((C : Nat) : Int).toNat := Nat.zero_add _
  refine e44 ?_
  conv => whnf
  cases b
  · conv => whnf
    refine need_of ((decide_eq_true ⟨by omega, by omega⟩)) ?_
    conv => whnf
    refine need_of ((decide_eq_true (by omega))) ?_
    conv => whnf
    rw [ht]
    refine CallsF.call [] [] (more_spec (p := chance p (C : Int)) hq) rfl rfl rfl rfl rfl (.inl rfl) ?_
    conv => whnf
    refine ⟨.inl ⟨_, rfl⟩, ?_⟩
    conv => whnf
    refine need_of ((decide_eq_true ⟨by omega, by omega⟩)) ?_
    conv => whnf
    refine need_of ((decide_eq_true (by omega))) ?_
    conv => whnf
    rw [ht, inc_nat (by omega)]
    exact ⟨[], [], rfl, rfl, rfl⟩
  · conv => whnf
    refine need_of ((decide_eq_true ⟨by omega, by omega⟩)) ?_
    conv => whnf
    refine need_of ((decide_eq_true (by omega))) ?_
    conv => whnf
    rw [ht]
    refine CallsF.call [] [] (less_spec (p := chance p (C : Int)) hq) rfl rfl rfl rfl rfl (.inl rfl) ?_
    conv => whnf
    refine ⟨.inl ⟨_, rfl⟩, ?_⟩
    conv => whnf
    refine need_of ((decide_eq_true ⟨by omega, by omega⟩)) ?_
    conv => whnf
    refine need_of ((decide_eq_true (by omega))) ?_
    conv => whnf
    rw [ht, inc_nat (by omega)]
    exact ⟨[], [], rfl, rfl, rfl⟩

theorem has1_spec (p : List Int) (n : Nat) (low size x : Int) (l : List Bool) (c : Int) : CallsF Tryd.prog 41 [.bp 0 0, iv c] [cB p n low size x, pD p, wB l 3, wD l] (.bool (hasC p c)) [cB p n low size x, pD p, wB l 3, wD l] := by
  refine e41 ?_
  conv => whnf
  by_cases h0 : 0 ≤ c
  · rw [show decide (c ≥ 0) = true from decide_eq_true h0]
    conv => whnf
    exact ⟨[], [], rfl, congrArg AV.bool (by simp [hasC, h0]), rfl⟩
  · rw [show decide (c ≥ 0) = false from decide_eq_false h0]
    conv => whnf
    exact ⟨[], [], rfl, congrArg AV.bool (by simp [hasC, h0]), rfl⟩

theorem take1_spec (p : List Int) (n : Nat) (low size x : Int) (l : List Bool) {part : Int} (h0 : 0 ≤ low) (h1 : low ≤ 65536) (h2 : 0 ≤ size) (h3 : size ≤ 65536) (h4 : 0 ≤ part) (h5 : part ≤ size) (b : Bool) : CallsF Tryd.prog 42 [.bp 0 2, iv part, .bool b] [cB p n low size x, pD p, wB l 3, wD l] (.tup []) [cB p n (lowT low part b) (sizeT size part b) x, pD p, wB l 3, wD l] := by
  refine e42 ?_
  conv => whnf
  cases b
  · conv => whnf
    exact ⟨[], [], rfl, rfl, rfl⟩
  · conv => whnf
    rw [wrap_id (n := low + part) (by omega) (by omega), wrap_id (n := size - part) (by omega) (by omega)]
    exact ⟨[], [], rfl, rfl, rfl⟩

theorem double1_spec (p : List Int) (n : Nat) (low size x : Int) (l : List Bool) (h0 : 0 ≤ low) (h1 : low < 65536) (h2 : 0 ≤ size) (h3 : size ≤ 65536) : CallsF Tryd.prog 77 [.bp 0 2] [cB p n low size x, pD p, wB l 3, wD l] (.tup []) [cB p n (2 * low % 65536) (2 * size) x, pD p, wB l 3, wD l] := by
  refine e77 ?_
  conv => whnf
  rw [dbl_eq h0 h1, shl1_eq h2 h3]
  exact ⟨[], [], rfl, rfl, rfl⟩

theorem learn1_spec (p : List Int) (n : Nat) (low size x : Int) (l : List Bool) {c : Int} (hc : hasC p c = true) (hq : okP (chance p c)) (hn : n < 4294967296) (b : Bool) : CallsF Tryd.prog 44 [.bp 0 0, iv c, .bool b] [cB p n low size x, pD p, wB l 3, wD l] (.tup []) [some (.box [.sl 1 0 p.length, iv (n + 1 : Nat), iv low, iv size, iv x, .bp 2 0]), pD (learnP p c b), wB l 3, wD l] := by
  simp only [hasC, Bool.and_eq_true, decide_eq_true_eq] at hc
  obtain ⟨C, rfl⟩ : ∃ C : Nat, c = C := ⟨c.toNat, by omega⟩
  have ht : 0 + ((C : Nat) : Int).toNat = ((C : Nat) : Int).toNat := Nat.zero_add _
  refine e44 ?_
  conv => whnf
  cases b
  · conv => whnf
    refine need_of ((decide_eq_true ⟨by omega, by omega⟩)) ?_
    conv => whnf
    refine need_of ((decide_eq_true (by omega))) ?_
    conv => whnf
    rw [ht]
    refine CallsF.call [] [] (more_spec (p := chance p (C : Int)) hq) rfl rfl rfl rfl rfl (.inl rfl) ?_
    conv => whnf
    refine ⟨.inl ⟨_, rfl⟩, ?_⟩
    conv => whnf
    refine need_of ((decide_eq_true ⟨by omega, by omega⟩)) ?_
    conv => whnf
    refine need_of ((decide_eq_true (by omega))) ?_
    conv => whnf
    rw [ht, inc_nat (by omega)]
    exact ⟨[], [], rfl, rfl, rfl⟩
  · conv => whnf
    refine need_of ((decide_eq_true ⟨by omega, by omega⟩)) ?_
    conv => whnf
    refine need_of ((decide_eq_true (by omega))) ?_
    conv => whnf
    rw [ht]
    refine CallsF.call [] [] (less_spec (p := chance p (C : Int)) hq) rfl rfl rfl rfl rfl (.inl rfl) ?_
    conv => whnf
    refine ⟨.inl ⟨_, rfl⟩, ?_⟩
    conv => whnf
    refine need_of ((decide_eq_true ⟨by omega, by omega⟩)) ?_
    conv => whnf
    refine need_of ((decide_eq_true (by omega))) ?_
    conv => whnf
    rw [ht, inc_nat (by omega)]
    exact ⟨[], [], rfl, rfl, rfl⟩

theorem has2_spec (p : List Int) (n : Nat) (low size x : Int) (bs : List Int) (pos over : Nat) (c : Int) : CallsF Tryd.prog 41 [.bp 0 0, iv c] [cB p n low size x, pD p, some (.box [.ri .u8 bs, iv pos, iv over])] (.bool (hasC p c)) [cB p n low size x, pD p, some (.box [.ri .u8 bs, iv pos, iv over])] := by
  refine e41 ?_
  conv => whnf
  by_cases h0 : 0 ≤ c
  · rw [show decide (c ≥ 0) = true from decide_eq_true h0]
    conv => whnf
    exact ⟨[], [], rfl, congrArg AV.bool (by simp [hasC, h0]), rfl⟩
  · rw [show decide (c ≥ 0) = false from decide_eq_false h0]
    conv => whnf
    exact ⟨[], [], rfl, congrArg AV.bool (by simp [hasC, h0]), rfl⟩

theorem take2_spec (p : List Int) (n : Nat) (low size x : Int) (bs : List Int) (pos over : Nat) {part : Int} (h0 : 0 ≤ low) (h1 : low ≤ 65536) (h2 : 0 ≤ size) (h3 : size ≤ 65536) (h4 : 0 ≤ part) (h5 : part ≤ size) (b : Bool) : CallsF Tryd.prog 42 [.bp 0 2, iv part, .bool b] [cB p n low size x, pD p, some (.box [.ri .u8 bs, iv pos, iv over])] (.tup []) [cB p n (lowT low part b) (sizeT size part b) x, pD p, some (.box [.ri .u8 bs, iv pos, iv over])] := by
  refine e42 ?_
  conv => whnf
  cases b
  · conv => whnf
    exact ⟨[], [], rfl, rfl, rfl⟩
  · conv => whnf
    rw [wrap_id (n := low + part) (by omega) (by omega), wrap_id (n := size - part) (by omega) (by omega)]
    exact ⟨[], [], rfl, rfl, rfl⟩

theorem double2_spec (p : List Int) (n : Nat) (low size x : Int) (bs : List Int) (pos over : Nat) (h0 : 0 ≤ low) (h1 : low < 65536) (h2 : 0 ≤ size) (h3 : size ≤ 65536) : CallsF Tryd.prog 77 [.bp 0 2] [cB p n low size x, pD p, some (.box [.ri .u8 bs, iv pos, iv over])] (.tup []) [cB p n (2 * low % 65536) (2 * size) x, pD p, some (.box [.ri .u8 bs, iv pos, iv over])] := by
  refine e77 ?_
  conv => whnf
  rw [dbl_eq h0 h1, shl1_eq h2 h3]
  exact ⟨[], [], rfl, rfl, rfl⟩

theorem learn2_spec (p : List Int) (n : Nat) (low size x : Int) (bs : List Int) (pos over : Nat) {c : Int} (hc : hasC p c = true) (hq : okP (chance p c)) (hn : n < 4294967296) (b : Bool) : CallsF Tryd.prog 44 [.bp 0 0, iv c, .bool b] [cB p n low size x, pD p, some (.box [.ri .u8 bs, iv pos, iv over])] (.tup []) [some (.box [.sl 1 0 p.length, iv (n + 1 : Nat), iv low, iv size, iv x, .bp 2 0]), pD (learnP p c b), some (.box [.ri .u8 bs, iv pos, iv over])] := by
  simp only [hasC, Bool.and_eq_true, decide_eq_true_eq] at hc
  obtain ⟨C, rfl⟩ : ∃ C : Nat, c = C := ⟨c.toNat, by omega⟩
  have ht : 0 + ((C : Nat) : Int).toNat = ((C : Nat) : Int).toNat := Nat.zero_add _
  refine e44 ?_
  conv => whnf
  cases b
  · conv => whnf
    refine need_of ((decide_eq_true ⟨by omega, by omega⟩)) ?_
    conv => whnf
    refine need_of ((decide_eq_true (by omega))) ?_
    conv => whnf
    rw [ht]
    refine CallsF.call [] [] (more_spec (p := chance p (C : Int)) hq) rfl rfl rfl rfl rfl (.inl rfl) ?_
    conv => whnf
    refine ⟨.inl ⟨_, rfl⟩, ?_⟩
    conv => whnf
    refine need_of ((decide_eq_true ⟨by omega, by omega⟩)) ?_
    conv => whnf
    refine need_of ((decide_eq_true (by omega))) ?_
    conv => whnf
    rw [ht, inc_nat (by omega)]
    exact ⟨[], [], rfl, rfl, rfl⟩
  · conv => whnf
    refine need_of ((decide_eq_true ⟨by omega, by omega⟩)) ?_
    conv => whnf
    refine need_of ((decide_eq_true (by omega))) ?_
    conv => whnf
    rw [ht]
    refine CallsF.call [] [] (less_spec (p := chance p (C : Int)) hq) rfl rfl rfl rfl rfl (.inl rfl) ?_
    conv => whnf
    refine ⟨.inl ⟨_, rfl⟩, ?_⟩
    conv => whnf
    refine need_of ((decide_eq_true ⟨by omega, by omega⟩)) ?_
    conv => whnf
    refine need_of ((decide_eq_true (by omega))) ?_
    conv => whnf
    rw [ht, inc_nat (by omega)]
    exact ⟨[], [], rfl, rfl, rfl⟩

end Go.Proofs.TrydN

