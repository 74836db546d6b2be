/- Layer 26: the document's queue beside the other. -/
import Derived.Test.YtdcpobifckmoaaaN26L
namespace Go.Proofs.TryN
open Go Go.AL Go.Proofs

theorem Waits.putQ {next : Int} {W : List (Int × Int)} (h : Waits next W) (n v : Int) : Waits next (putQ next W n v) := by
  unfold Go.Proofs.TryN.putQ
  split
  · exact h
  · split
    · exact h
    · split
      · exact h
      · rename_i h1 h2 h3
        exact h.put (by omega) (by omega) (by cases hh : hasW W n <;> simp_all)

/-- A frame is put, where the document's queue holds who waits. -/
theorem rput_spec (next : Int) (W : List (Int × Int)) (H : Nat → Bool) (F : Nat → Fr) (hW : Waits next W) (q : RQ next W H F) (n v : Int) :
    CallsA Try.prog 13 [.bp 0 0, iv n, .agg (frow v)] [some (.box (qcells next H F))] fun r h' => r = iv (putE next W n) ∧ ∃ H' F', RQ next (putQ next W n v) H' F' ∧ h' = [some (.box (qcells next H' F'))] := by
  unfold putE putQ
  by_cases h1 : n < next
  · rw [if_pos h1, if_pos h1]
    exact CallsA.mono (rput_lo next H F n v h1) fun r h' ⟨a, b⟩ => ⟨a, H, F, q, b⟩
  rw [if_neg h1, if_neg h1]
  by_cases h2 : next + 8 < n
  · rw [if_pos h2, if_pos h2]
    exact CallsA.mono (rput_hi next hW.lo H F n v h2) fun r h' ⟨a, b⟩ => ⟨a, H, F, q, b⟩
  rw [if_neg h2, if_neg h2]
  obtain ⟨i, hi, rfl⟩ : ∃ i : Nat, i < 9 ∧ n = next + i := ⟨(n - next).toNat, by omega, by omega⟩
  have k0 := rput_at next hW.lo H F v i hi
  rw [q.has hW hi]
  cases hh : H i
  · rw [hh] at k0
    rw [if_neg (by simp), if_neg (by simp)] at k0
    rw [if_neg (by simp), if_neg (by simp)]
    exact CallsA.mono k0 fun r h' ⟨a, b⟩ => ⟨a, _, _, q.put hh hi, b⟩
  · rw [hh] at k0
    rw [if_pos rfl, if_pos rfl] at k0
    rw [if_pos rfl, if_pos rfl]
    exact CallsA.mono k0 fun r h' ⟨a, b⟩ => ⟨a, H, F, q, b⟩

theorem rtake2_spec (next : Int) (W : List (Int × Int)) (H : Nat → Bool) (F : Nat → Fr) (hW : Waits next W) (hb : next < 900000) (q : RQ next W H F) :
    CallsA Try.prog 14 [.bp 0 0] [some (.box (qcells next H F))] fun r h' => r = .ro 9 (outR W (tk next W)) ∧ ∃ H' F', Waits (next + tk next W) (W.drop (tk next W)) ∧ RQ (next + tk next W) (W.drop (tk next W)) H' F' ∧ h' = [some (.box (qcells (next + tk next W) H' F'))] :=
  CallsA.le (rtake_spec next W H F hW hb q) fun _r _h' ⟨a, b⟩ => ⟨_, a, rfl, b⟩

theorem rwaiting2_spec (next : Int) (W : List (Int × Int)) (H : Nat → Bool) (F : Nat → Fr) (hW : Waits next W) (q : RQ next W H F) : CallsF Try.prog 16 [.bp 0 0] [some (.box (qcells next H F))] (.ri .i64 (nums W)) [some (.box (qcells next H F))] := by
  have := rwaiting_spec next hW.lo H F
  rwa [q.numsW hW] at this

theorem RQ.fresh : RQ 0 [] (fun _ => false) (fun _ => Fr.zero) := ⟨fun i _ => by simp, fun i v _ h => by cases h⟩
theorem Waits.fresh : Waits 0 [] := ⟨by omega, by simp, by simp⟩

/-- One line of a script. -/
structure Ln where
  k : Int
  n : Int
  v : Int
  near : Bool

def Ln.row (l : Ln) : List AV := [iv l.k, iv l.n, iv l.v, .bool l.near]

theorem frow_at {W : List (Int × Int)} {k i : Nat} {rows : List (List AV)} (hr : outR W k = rows) (h : i < rows.length) : ∃ v, nth rows (i : Int).toNat = some (frow v) := by
  subst hr
  have h2 : i < k ∧ i < W.length := by unfold outR at h; rw [List.length_map, List.length_take] at h; omega
  refine ⟨W[i].2, ?_⟩
  rw [Int.toNat_natCast, nth_get, outR, List.getElem?_map, List.getElem?_take, if_pos h2.1, List.getElem?_eq_getElem h2.2]
  rfl

end Go.Proofs.TryN

