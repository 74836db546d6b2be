/- Layer 1: the writer of bits, the rest: the walk. -/
import Derived.Test.YtamgmfinkgdkjaaDoorN5C
namespace Go.Proofs.TrydN
open Go Go.AL Go.Proofs

theorem wlen_nil : CallsF Tryd.prog 54 [.bp 0 0] [some (.box [.snil, iv 0])] (iv 0) [some (.box [.snil, iv 0])] := by
  refine e54 ?_
  conv => whnf
  exact ⟨[], [], rfl, rfl, rfl⟩
theorem wlen_app (n m : Nat) (xs : List Int) : CallsF Tryd.prog 54 [.bp 0 0] [some (.box [.sl 1 0 m, iv n]), some (.ia .u8 xs)] (iv n) [some (.box [.sl 1 0 m, iv n]), some (.ia .u8 xs)] := by
  refine e54 ?_
  conv => whnf
  exact ⟨[], [], rfl, rfl, rfl⟩

theorem clone_nil : CallsF Tryd.prog 57 [.snil] [] .snil [] := by
  refine e57 ?_
  conv => whnf
  exact ⟨[], [], rfl, rfl, rfl⟩
theorem clone_semp : CallsF Tryd.prog 57 [.semp] [] .semp [] := by
  refine e57 ?_
  conv => whnf
  exact ⟨[], [], rfl, rfl, rfl⟩
theorem clone_sl0 (xs : List Int) : CallsF Tryd.prog 57 [.sl 0 0 0] [some (.ia .u8 xs)] .semp [some (.ia .u8 xs)] := by
  refine e57 ?_
  conv => whnf
  exact ⟨[], [], rfl, rfl, rfl⟩
theorem clone_sl (x : Int) (xs : List Int) (n : Nat) (hb : n < 4294967296) : CallsF Tryd.prog 57 [.sl 0 0 (n + 1)] [some (.ia .u8 (x :: xs))] (.sl 1 0 ((xs.take n).length + 1)) [some (.ia .u8 (x :: xs)), some (.ia .u8 (x :: xs.take n))] := by
  have h := List.length_take_le n xs
  refine e57 ?_
  conv => whnf
  refine need_of ((decide_eq_true (by omega))) ?_
  conv => whnf
  exact ⟨[1], [], rfl, rfl, rfl⟩
theorem clone_ri (x : Int) (xs : List Int) (hb : xs.length < 4294967296) : CallsF Tryd.prog 57 [.ri .u8 (x :: xs)] [] (.sl 0 0 (xs.length + 1)) [some (.ia .u8 (x :: xs))] := by
  refine e57 ?_
  conv => whnf
  refine need_of ((decide_eq_true (by omega))) ?_
  conv => whnf
  exact ⟨[0], [], rfl, rfl, rfl⟩

theorem iclone_sl (x : Int) (xs : List Int) (hb : xs.length < 4294967296) : CallsF Tryd.prog 60 [.sl 0 0 (xs.length + 1)] [some (.ia .i64 (x :: xs))] (.ri .i64 (x :: xs)) [some (.ia .i64 (x :: xs))] := by
  refine e60 ?_
  conv => whnf
  refine need_of ((decide_eq_true (by simp; omega))) ?_
  conv => whnf
  refine ⟨[], [1], rfl, ?_, rfl⟩
  show AV.ri .i64 (((x :: (xs.take xs.length)).drop 0).take ((xs.take xs.length).length + 1)) = _
  simp

theorem wbytes_nil : CallsF Tryd.prog 52 [.bp 0 0] [some (.box [.snil, iv 0])] .snil [some (.box [.snil, iv 0])] := by
  refine e52 ?_
  conv => whnf
  refine CallsF.call [] [] (clone_nil) rfl rfl rfl rfl rfl (.inl rfl) ?_
  conv => whnf
  exact ⟨[], [], rfl, rfl, rfl⟩
theorem wbytes_app (n : Nat) (x : Int) (xs : List Int) (hb : xs.length < 4294967296) : CallsF Tryd.prog 52 [.bp 0 0] [some (.box [.sl 1 0 (xs.length + 1), iv n]), some (.ia .u8 (x :: xs))] (.sl 2 0 (xs.length + 1)) [some (.box [.sl 1 0 (xs.length + 1), iv n]), some (.ia .u8 (x :: xs)), some (.ia .u8 (x :: xs))] := by
  refine e52 ?_
  conv => whnf
  have k := clone_sl x xs xs.length hb
  rw [List.take_length] at k
  refine CallsF.call [1] [] (k) rfl rfl rfl rfl rfl (.inl rfl) ?_
  conv => whnf
  exact ⟨[2], [], rfl, rfl, rfl⟩

/-- What is left where noughts are taken off the end. -/
def trimL (xs : List Int) : Nat → Nat
  | 0 => 0
  | n + 1 => if xs.getD n 0 = 0 then trimL xs n else n + 1

theorem trimB_spec (xs : List Int) (n : Nat) (hn : n ≤ xs.length) (hb : xs.length < 4294967296) : CallsF Tryd.prog 81 [.sl 0 0 n, .int .u8 0] [some (.ia .u8 xs)] (.sl 0 0 (trimL xs n)) [some (.ia .u8 xs)] := by
  refine e81 ?_
  conv => whnf
  refine LoopA.inv (fun k st => k ≤ n ∧ trimL xs k = trimL xs n ∧ st = ⟨[(0, .sl 0 0 k), (1, .int .u8 0)], [some (.ia .u8 xs)], 1, 1⟩) n [0, 1] [] [] (by rfl) ?_ ?_
  · conv => whnf
    exact ⟨Nat.le_refl _, rfl, rfl⟩
  rintro k st ⟨h1, h2, rfl⟩
  conv => whnf
  cases k with
  | zero =>
    conv => whnf
    refine ⟨[], [], rfl, ?_, rfl⟩
    exact congrArg (AV.sl 0 0) h2
  | succ k =>
    have hd : IntKind.wrap .i64 (((k + 1 : Nat) : Int) - 1) = ((k : Nat) : Int) := by rw [wrap_id (by omega) (by omega)]; simp
    have hk : 0 + (((k : Nat) : Int)).toNat = k := by rw [Int.toNat_natCast, Nat.zero_add]
    conv => whnf
    refine ifB_of (fun _ => ?_) (fun h => absurd h (by simp))
    conv => whnf
    rw [hd]
    conv => whnf
    refine need_of ((decide_eq_true ⟨by omega, by omega⟩)) ?_
    conv => whnf
    refine need_of ((decide_eq_true (by omega))) ?_
    conv => whnf
    rw [hk]
    by_cases hz : xs.getD k 0 = 0
    · rw [show (xs.getD k 0 == 0) = true from beq_iff_eq.2 hz]
      conv => whnf
      rw [hd]
      conv => whnf
      refine need_of ((decide_eq_true ⟨by omega, by omega, by omega⟩)) ?_
      conv => whnf
      refine ⟨k, [0, 1], [], [], by omega, rfl, ?_⟩
      conv => whnf
      refine ⟨by omega, ?_, rfl⟩
      rw [← h2, trimL, if_pos hz]
    · rw [show (xs.getD k 0 == 0) = false from beq_eq_false_iff_ne.2 hz]
      conv => whnf
      refine ⟨[], [], rfl, ?_, rfl⟩
      show AV.sl 0 0 (k + 1) = _
      rw [← h2, trimL, if_neg hz]

theorem trim_spec (xs : List Int) (hb : xs.length < 4294967296) (h0 : xs.length ≠ 0) : CallsF Tryd.prog 58 [.sl 0 0 xs.length, .str ⟨#[0]⟩] [some (.ia .u8 xs)] (.sl 0 0 (trimL xs xs.length)) [some (.ia .u8 xs)] := by
  refine e58 ?_
  conv => whnf
  rw [show (((xs.length : Nat) : Int) == 0) = false from beq_eq_false_iff_ne.2 (by omega)]
  conv => whnf
  refine CallsF.call [0] [] (trimB_spec xs xs.length (Nat.le_refl _) hb) rfl rfl rfl rfl rfl (.inl rfl) ?_
  conv => whnf
  exact ⟨[], [], rfl, rfl, rfl⟩

end Go.Proofs.TrydN

