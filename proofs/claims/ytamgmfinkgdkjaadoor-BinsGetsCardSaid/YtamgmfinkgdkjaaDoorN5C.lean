/- Layer 1: the writer of bits: the walk. -/
import Derived.Test.YtamgmfinkgdkjaaDoorN5B
namespace Go.Proofs.TrydN
open Go Go.AL Go.Proofs

theorem inc_nat {n : Nat} (h : n < 4611686018427387904) : IntKind.wrap .i64 ((n : Int) + 1) = ((n + 1 : Nat) : Int) := by rw [wrap_id (by omega) (by omega)]; rfl
theorem div8 {n : Nat} (h : n < 4611686018427387904) : IntKind.wrap .i64 ((n : Int).tdiv 8) = ((n / 8 : Nat) : Int) := by
  rw [Int.tdiv_eq_ediv_of_nonneg (by omega), wrap_id (by omega) (by omega)]; rfl

theorem wbit_nil (b : Bool) : CallsF Tryd.prog 56 [.bp 0 0, .bool b] [some (.box [.snil, iv 0])] (.tup []) [some (.box [.sl 1 0 1, iv 1]), some (.ia .u8 (pack [b]))] := by
  refine m56 1 ?_
  conv => whnf
  cases b
  · conv => whnf
    exact ⟨[2], [], rfl, rfl, rfl⟩
  · conv => whnf
    exact ⟨[2], [], rfl, rfl, rfl⟩

theorem or_new (l : List Bool) : IntKind.wrap .u8 ((BitVec.ofInt IntKind.u8.bits (byteAt (bitAt l) (l.length / 8)) ||| BitVec.ofInt IntKind.u8.bits ((128 : Int).fdiv (2 ^ min ((l.length : Int).tmod 8).toNat IntKind.u8.bits))).toNat : Nat) = byteAt (bitAt (l ++ [true])) (l.length / 8) :=
  or_byte (bitAt l) (bitAt (l ++ [true])) l.length (fun k hk => by rw [bitAt_app, if_neg hk]) (fun k hk => bitAt_out hk) (by rw [bitAt_app, if_pos rfl])

theorem wbit_app {l : List Bool} {xs : List Int} (hx : pack l = xs) (hb : l.length < 4294967296) (b : Bool) : CallsF Tryd.prog 56 [.bp 0 0, .bool b] [some (.box [.sl 1 0 xs.length, iv l.length]), some (.ia .u8 xs)] (.tup [])
    [some (.box [.sl 2 0 (pack (l ++ [b])).length, iv (l ++ [b]).length]), none, some (.ia .u8 (pack (l ++ [b])))] := by
  have hl : xs.length = (l.length + 7) / 8 := by rw [← hx, pack_len]
  refine m56 1 ?_
  conv => whnf
  refine ifB_of (fun h => ?_) (fun h => ?_)
  · have hm : l.length % 8 = 0 := by
      have h2 : (((l.length % 8 : Nat) : Int) == 0) = true := h
      have := eq_of_beq h2; omega
    conv => whnf
    refine need_of ((decide_eq_true ⟨by omega, by simp; omega⟩)) ?_
    conv => whnf
    cases b
    · conv => whnf
      refine ⟨[3], [], rfl, rfl, ?_⟩
      show [some (ABlk.box [.sl 2 0 (xs.length + 1), iv (IntKind.wrap .i64 (l.length + 1))]), none, some (.ia .u8 (xs.drop 0 ++ [0]))] = _
      rw [pack_app0 l false hm, hx, inc_nat (by omega)]
      simp [bI]
    · conv => whnf
      rw [div8 (by omega)]
      conv => whnf
      refine need_of ((decide_eq_true ⟨by omega, by simp; omega⟩)) ?_
      conv => whnf
      refine need_of ((decide_eq_true (by simp; omega))) ?_
      conv => whnf
      refine need_of ((decide_eq_true (by simp; omega))) ?_
      conv => whnf
      refine need_of ((decide_eq_true (by simp; omega))) ?_
      conv => whnf
      have hg : (xs.drop 0 ++ [(0 : Int)]).getD (0 + (((l.length / 8 : Nat) : Int)).toNat) 0 = byteAt (bitAt l) (l.length / 8) := by
        have e1 : 0 + (((l.length / 8 : Nat) : Int)).toNat = xs.length := by simp; omega
        have e2 : byteAt (bitAt l) (l.length / 8) = 0 := by
          have e8 : 8 * (l.length / 8) = l.length := by omega
          unfold byteAt
          rw [e8, bitAt_out (by omega), bitAt_out (by omega), bitAt_out (by omega), bitAt_out (by omega), bitAt_out (by omega), bitAt_out (by omega), bitAt_out (by omega), bitAt_out (by omega)]
          rfl
        rw [e1, e2]; simp [List.getD]
      refine ⟨[3], [], rfl, rfl, ?_⟩
      show [some (ABlk.box [.sl 2 0 (xs.length + 1), iv (IntKind.wrap .i64 (l.length + 1))]), none, some (.ia .u8 ((xs.drop 0 ++ [(0 : Int)]).set (0 + (((l.length / 8 : Nat) : Int)).toNat) (IntKind.wrap .u8 ((BitVec.ofInt IntKind.u8.bits ((xs.drop 0 ++ [(0 : Int)]).getD (0 + (((l.length / 8 : Nat) : Int)).toNat) 0) ||| BitVec.ofInt IntKind.u8.bits ((128 : Int).fdiv (2 ^ min ((l.length : Int).tmod 8).toNat IntKind.u8.bits))).toNat : Nat))))] = _
      rw [hg, or_new, pack_app0 l true hm, hx, inc_nat (by omega), byte_new l true hm]
      have e1 : 0 + (((l.length / 8 : Nat) : Int)).toNat = xs.length := by simp; omega
      rw [e1]
      simp [bI]
  · have hm : l.length % 8 ≠ 0 := by
      have h2 : (((l.length % 8 : Nat) : Int) == 0) = false := h
      have := ne_of_beq_false h2; omega
    conv => whnf
    cases b
    · conv => whnf
      refine ⟨[1], [], rfl, rfl, ?_⟩
      show [some (ABlk.box [.sl 2 0 xs.length, iv (IntKind.wrap .i64 (l.length + 1))]), none, some (.ia .u8 xs)] = _
      have hf : bitAt (l ++ [false]) = bitAt l := funext fun k => by
        rw [bitAt_app]
        split
        · rename_i h; subst h; rw [bitAt_out (Nat.le_refl _)]
        · rfl
      have he : pack (l ++ [false]) = xs := by
        rw [pack_app1 l false hm, hf, ← hx]
        apply List.ext_getElem?
        intro i
        rw [List.getElem?_set]
        split
        · rename_i h1
          subst h1
          rw [if_pos (by rw [pack_len]; omega), pack_get (by omega)]
        · rfl
      rw [he, inc_nat (by omega)]
      simp
    · conv => whnf
      rw [div8 (by omega)]
      conv => whnf
      refine need_of ((decide_eq_true ⟨by omega, by omega⟩)) ?_
      conv => whnf
      refine need_of ((decide_eq_true (by simp; omega))) ?_
      conv => whnf
      refine need_of ((decide_eq_true (by simp; omega))) ?_
      conv => whnf
      refine need_of ((decide_eq_true (by simp; omega))) ?_
      conv => whnf
      have e1 : 0 + (((l.length / 8 : Nat) : Int)).toNat = l.length / 8 := by rw [Int.toNat_natCast, Nat.zero_add]
      have hg : xs.getD (l.length / 8) 0 = byteAt (bitAt l) (l.length / 8) := by
        rw [← hx, List.getD, pack_get (by omega)]; rfl
      refine ⟨[1], [], rfl, rfl, ?_⟩
      show [some (ABlk.box [.sl 2 0 xs.length, iv (IntKind.wrap .i64 (l.length + 1))]), none, some (.ia .u8 (xs.set (0 + (((l.length / 8 : Nat) : Int)).toNat) (IntKind.wrap .u8 ((BitVec.ofInt IntKind.u8.bits (xs.getD (0 + (((l.length / 8 : Nat) : Int)).toNat) 0) ||| BitVec.ofInt IntKind.u8.bits ((128 : Int).fdiv (2 ^ min ((l.length : Int).tmod 8).toNat IntKind.u8.bits))).toNat : Nat))))] = _
      rw [e1, hg, or_new, pack_app1 l true hm, hx, inc_nat (by omega)]
      simp

end Go.Proofs.TrydN

