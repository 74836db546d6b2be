/- Layer 26: the document's queue: as cells; a frame is put, by its place. -/
import Derived.Test.YtdcpobifckmoaaaN26H
namespace Go.Proofs.TryN
open Go Go.AL Go.Proofs

/-- A frame's cells. -/
structure Fr where
  w0 : Int
  h0 : Int
  l0 : List Int
  w1 : Int
  h1 : Int
  l1 : List Int
  w2 : Int
  h2 : Int
  l2 : List Int

def Fr.zero : Fr := ⟨0, 0, [], 0, 0, [], 0, 0, []⟩
def Fr.of (v : Int) : Fr := ⟨1, 1, [IntKind.wrap .i64 (v + 0)], 1, 1, [IntKind.wrap .i64 (v + 1)], 1, 1, [IntKind.wrap .i64 (v + 2)]⟩
def Fr.row (f : Fr) : List AV := [iv f.w0, iv f.h0, .ri .i64 f.l0, iv f.w1, iv f.h1, .ri .i64 f.l1, iv f.w2, iv f.h2, .ri .i64 f.l2]
theorem Fr.row_of (v : Int) : (Fr.of v).row = frow v := rfl

/-- The document's queue. -/
def qcells (next : Int) (H : Nat → Bool) (F : Nat → Fr) : List AV := iv next :: .bool (H 0) :: .bool (H 1) :: .bool (H 2) :: .bool (H 3) :: .bool (H 4) :: .bool (H 5) :: .bool (H 6) :: .bool (H 7) :: .bool (H 8) :: [iv (F 0).w0, iv (F 0).h0, .ri .i64 (F 0).l0, iv (F 0).w1, iv (F 0).h1, .ri .i64 (F 0).l1, iv (F 0).w2, iv (F 0).h2, .ri .i64 (F 0).l2, iv (F 1).w0, iv (F 1).h0, .ri .i64 (F 1).l0, iv (F 1).w1, iv (F 1).h1, .ri .i64 (F 1).l1, iv (F 1).w2, iv (F 1).h2, .ri .i64 (F 1).l2, iv (F 2).w0, iv (F 2).h0, .ri .i64 (F 2).l0, iv (F 2).w1, iv (F 2).h1, .ri .i64 (F 2).l1, iv (F 2).w2, iv (F 2).h2, .ri .i64 (F 2).l2, iv (F 3).w0, iv (F 3).h0, .ri .i64 (F 3).l0, iv (F 3).w1, iv (F 3).h1, .ri .i64 (F 3).l1, iv (F 3).w2, iv (F 3).h2, .ri .i64 (F 3).l2, iv (F 4).w0, iv (F 4).h0, .ri .i64 (F 4).l0, iv (F 4).w1, iv (F 4).h1, .ri .i64 (F 4).l1, iv (F 4).w2, iv (F 4).h2, .ri .i64 (F 4).l2, iv (F 5).w0, iv (F 5).h0, .ri .i64 (F 5).l0, iv (F 5).w1, iv (F 5).h1, .ri .i64 (F 5).l1, iv (F 5).w2, iv (F 5).h2, .ri .i64 (F 5).l2, iv (F 6).w0, iv (F 6).h0, .ri .i64 (F 6).l0, iv (F 6).w1, iv (F 6).h1, .ri .i64 (F 6).l1, iv (F 6).w2, iv (F 6).h2, .ri .i64 (F 6).l2, iv (F 7).w0, iv (F 7).h0, .ri .i64 (F 7).l0, iv (F 7).w1, iv (F 7).h1, .ri .i64 (F 7).l1, iv (F 7).w2, iv (F 7).h2, .ri .i64 (F 7).l2, iv (F 8).w0, iv (F 8).h0, .ri .i64 (F 8).l0, iv (F 8).w1, iv (F 8).h1, .ri .i64 (F 8).l1, iv (F 8).w2, iv (F 8).h2, .ri .i64 (F 8).l2]

def upd {α : Type} (f : Nat → α) (i : Nat) (x : α) : Nat → α := fun k => match Nat.beq k i with
  | true => x
  | false => f k

theorem upd_at {α : Type} (f : Nat → α) (i : Nat) (x : α) : upd f i x i = x := by simp [upd]
theorem upd_ne {α : Type} (f : Nat → α) (i : Nat) (x : α) {k : Nat} (h : k ≠ i) : upd f i x k = f k := by
  have : Nat.beq k i = false := by
    cases hb : Nat.beq k i
    · rfl
    · exact absurd (Nat.eq_of_beq_eq_true hb) h
  simp [upd, this]

set_option maxRecDepth 20000 in
set_option maxHeartbeats 2000000 in
theorem rput_lo (next : Int) (H : Nat → Bool) (F : Nat → Fr) (n v : Int) (h : n < next) : CallsF Try.prog 13 [.bp 0 0, iv n, .agg (frow v)] [some (.box (qcells next H F))] (iv 251) [some (.box (qcells next H F))] := by
  refine e13 ?_
  conv => whnf
  refine ifB_of (fun _ => ?_) (fun hh => absurd hh (by simp; omega))
  conv => whnf
  exact ⟨[], [], rfl, rfl, rfl⟩
set_option maxRecDepth 20000 in
set_option maxHeartbeats 2000000 in
theorem rput_hi (next : Int) (hlo : 0 ≤ next ∧ next < 1000000) (H : Nat → Bool) (F : Nat → Fr) (n v : Int) (h : next + 8 < n) : CallsF Try.prog 13 [.bp 0 0, iv n, .agg (frow v)] [some (.box (qcells next H F))] (iv 260) [some (.box (qcells next H F))] := by
  refine e13 ?_
  conv => whnf
  refine ifB_of (fun hh => absurd hh (by simp; omega)) (fun _ => ?_)
  conv => whnf
  rw [wrap_id (n := next + 8) (by omega) (by omega)]
  refine ifB_of (fun _ => ?_) (fun hh => absurd hh (by simp; omega))
  conv => whnf
  exact ⟨[], [], rfl, rfl, rfl⟩

set_option maxRecDepth 20000 in
set_option maxHeartbeats 2000000 in
theorem rput_0 (next : Int) (hlo : 0 ≤ next ∧ next < 1000000) (H : Nat → Bool) (F : Nat → Fr) (v : Int) : CallsF Try.prog 13 [.bp 0 0, iv (next + 0), .agg (frow v)] [some (.box (qcells next H F))] (iv (if H 0 = true then 251 else 0)) [some (.box (if H 0 = true then qcells next H F else qcells next (upd H 0 true) (upd F 0 (Fr.of v))))] := by
  refine e13 ?_
  conv => whnf
  refine ifB_of (fun hh => absurd (of_decide_eq_true hh) (by omega)) (fun _ => ?_)
  conv => whnf
  rw [wrap_id (n := next + 8) (by omega) (by omega)]
  refine ifB_of (fun hh => absurd (of_decide_eq_true hh) (by omega)) (fun _ => ?_)
  conv => whnf
  rw [show IntKind.wrap .i64 (next + 0 - next) = 0 by rw [wrap_id (by omega) (by omega)]; omega]
  conv => whnf
  cases hh : H 0
  · rw [if_neg (by simp), if_neg (by simp)]
    conv => whnf
    exact ⟨[], [], rfl, rfl, by rfl⟩
  · rw [if_pos rfl, if_pos rfl]
    conv => whnf
    exact ⟨[], [], rfl, rfl, by rw [qcells, hh]; rfl⟩

set_option maxRecDepth 20000 in
set_option maxHeartbeats 2000000 in
theorem rput_1 (next : Int) (hlo : 0 ≤ next ∧ next < 1000000) (H : Nat → Bool) (F : Nat → Fr) (v : Int) : CallsF Try.prog 13 [.bp 0 0, iv (next + 1), .agg (frow v)] [some (.box (qcells next H F))] (iv (if H 1 = true then 251 else 0)) [some (.box (if H 1 = true then qcells next H F else qcells next (upd H 1 true) (upd F 1 (Fr.of v))))] := by
  refine e13 ?_
  conv => whnf
  refine ifB_of (fun hh => absurd (of_decide_eq_true hh) (by omega)) (fun _ => ?_)
  conv => whnf
  rw [wrap_id (n := next + 8) (by omega) (by omega)]
  refine ifB_of (fun hh => absurd (of_decide_eq_true hh) (by omega)) (fun _ => ?_)
  conv => whnf
  rw [show IntKind.wrap .i64 (next + 1 - next) = 1 by rw [wrap_id (by omega) (by omega)]; omega]
  conv => whnf
  cases hh : H 1
  · rw [if_neg (by simp), if_neg (by simp)]
    conv => whnf
    exact ⟨[], [], rfl, rfl, by rfl⟩
  · rw [if_pos rfl, if_pos rfl]
    conv => whnf
    exact ⟨[], [], rfl, rfl, by rw [qcells, hh]; rfl⟩

set_option maxRecDepth 20000 in
set_option maxHeartbeats 2000000 in
theorem rput_2 (next : Int) (hlo : 0 ≤ next ∧ next < 1000000) (H : Nat → Bool) (F : Nat → Fr) (v : Int) : CallsF Try.prog 13 [.bp 0 0, iv (next + 2), .agg (frow v)] [some (.box (qcells next H F))] (iv (if H 2 = true then 251 else 0)) [some (.box (if H 2 = true then qcells next H F else qcells next (upd H 2 true) (upd F 2 (Fr.of v))))] := by
  refine e13 ?_
  conv => whnf
  refine ifB_of (fun hh => absurd (of_decide_eq_true hh) (by omega)) (fun _ => ?_)
  conv => whnf
  rw [wrap_id (n := next + 8) (by omega) (by omega)]
  refine ifB_of (fun hh => absurd (of_decide_eq_true hh) (by omega)) (fun _ => ?_)
  conv => whnf
  rw [show IntKind.wrap .i64 (next + 2 - next) = 2 by rw [wrap_id (by omega) (by omega)]; omega]
  conv => whnf
  cases hh : H 2
  · rw [if_neg (by simp), if_neg (by simp)]
    conv => whnf
    exact ⟨[], [], rfl, rfl, by rfl⟩
  · rw [if_pos rfl, if_pos rfl]
    conv => whnf
    exact ⟨[], [], rfl, rfl, by rw [qcells, hh]; rfl⟩

set_option maxRecDepth 20000 in
set_option maxHeartbeats 2000000 in
theorem rput_3 (next : Int) (hlo : 0 ≤ next ∧ next < 1000000) (H : Nat → Bool) (F : Nat → Fr) (v : Int) : CallsF Try.prog 13 [.bp 0 0, iv (next + 3), .agg (frow v)] [some (.box (qcells next H F))] (iv (if H 3 = true then 251 else 0)) [some (.box (if H 3 = true then qcells next H F else qcells next (upd H 3 true) (upd F 3 (Fr.of v))))] := by
  refine e13 ?_
  conv => whnf
  refine ifB_of (fun hh => absurd (of_decide_eq_true hh) (by omega)) (fun _ => ?_)
  conv => whnf
  rw [wrap_id (n := next + 8) (by omega) (by omega)]
  refine ifB_of (fun hh => absurd (of_decide_eq_true hh) (by omega)) (fun _ => ?_)
  conv => whnf
  rw [show IntKind.wrap .i64 (next + 3 - next) = 3 by rw [wrap_id (by omega) (by omega)]; omega]
  conv => whnf
  cases hh : H 3
  · rw [if_neg (by simp), if_neg (by simp)]
    conv => whnf
    exact ⟨[], [], rfl, rfl, by rfl⟩
  · rw [if_pos rfl, if_pos rfl]
    conv => whnf
    exact ⟨[], [], rfl, rfl, by rw [qcells, hh]; rfl⟩

set_option maxRecDepth 20000 in
set_option maxHeartbeats 2000000 in
theorem rput_4 (next : Int) (hlo : 0 ≤ next ∧ next < 1000000) (H : Nat → Bool) (F : Nat → Fr) (v : Int) : CallsF Try.prog 13 [.bp 0 0, iv (next + 4), .agg (frow v)] [some (.box (qcells next H F))] (iv (if H 4 = true then 251 else 0)) [some (.box (if H 4 = true then qcells next H F else qcells next (upd H 4 true) (upd F 4 (Fr.of v))))] := by
  refine e13 ?_
  conv => whnf
  refine ifB_of (fun hh => absurd (of_decide_eq_true hh) (by omega)) (fun _ => ?_)
  conv => whnf
  rw [wrap_id (n := next + 8) (by omega) (by omega)]
  refine ifB_of (fun hh => absurd (of_decide_eq_true hh) (by omega)) (fun _ => ?_)
  conv => whnf
  rw [show IntKind.wrap .i64 (next + 4 - next) = 4 by rw [wrap_id (by omega) (by omega)]; omega]
  conv => whnf
  cases hh : H 4
  · rw [if_neg (by simp), if_neg (by simp)]
    conv => whnf
    exact ⟨[], [], rfl, rfl, by rfl⟩
  · rw [if_pos rfl, if_pos rfl]
    conv => whnf
    exact ⟨[], [], rfl, rfl, by rw [qcells, hh]; rfl⟩

set_option maxRecDepth 20000 in
set_option maxHeartbeats 2000000 in
theorem rput_5 (next : Int) (hlo : 0 ≤ next ∧ next < 1000000) (H : Nat → Bool) (F : Nat → Fr) (v : Int) : CallsF Try.prog 13 [.bp 0 0, iv (next + 5), .agg (frow v)] [some (.box (qcells next H F))] (iv (if H 5 = true then 251 else 0)) [some (.box (if H 5 = true then qcells next H F else qcells next (upd H 5 true) (upd F 5 (Fr.of v))))] := by
  refine e13 ?_
  conv => whnf
  refine ifB_of (fun hh => absurd (of_decide_eq_true hh) (by omega)) (fun _ => ?_)
  conv => whnf
  rw [wrap_id (n := next + 8) (by omega) (by omega)]
  refine ifB_of (fun hh => absurd (of_decide_eq_true hh) (by omega)) (fun _ => ?_)
  conv => whnf
  rw [show IntKind.wrap .i64 (next + 5 - next) = 5 by rw [wrap_id (by omega) (by omega)]; omega]
  conv => whnf
  cases hh : H 5
  · rw [if_neg (by simp), if_neg (by simp)]
    conv => whnf
    exact ⟨[], [], rfl, rfl, by rfl⟩
  · rw [if_pos rfl, if_pos rfl]
    conv => whnf
    exact ⟨[], [], rfl, rfl, by rw [qcells, hh]; rfl⟩

set_option maxRecDepth 20000 in
set_option maxHeartbeats 2000000 in
theorem rput_6 (next : Int) (hlo : 0 ≤ next ∧ next < 1000000) (H : Nat → Bool) (F : Nat → Fr) (v : Int) : CallsF Try.prog 13 [.bp 0 0, iv (next + 6), .agg (frow v)] [some (.box (qcells next H F))] (iv (if H 6 = true then 251 else 0)) [some (.box (if H 6 = true then qcells next H F else qcells next (upd H 6 true) (upd F 6 (Fr.of v))))] := by
  refine e13 ?_
  conv => whnf
  refine ifB_of (fun hh => absurd (of_decide_eq_true hh) (by omega)) (fun _ => ?_)
  conv => whnf
  rw [wrap_id (n := next + 8) (by omega) (by omega)]
  refine ifB_of (fun hh => absurd (of_decide_eq_true hh) (by omega)) (fun _ => ?_)
  conv => whnf
  rw [show IntKind.wrap .i64 (next + 6 - next) = 6 by rw [wrap_id (by omega) (by omega)]; omega]
  conv => whnf
  cases hh : H 6
  · rw [if_neg (by simp), if_neg (by simp)]
    conv => whnf
    exact ⟨[], [], rfl, rfl, by rfl⟩
  · rw [if_pos rfl, if_pos rfl]
    conv => whnf
    exact ⟨[], [], rfl, rfl, by rw [qcells, hh]; rfl⟩

set_option maxRecDepth 20000 in
set_option maxHeartbeats 2000000 in
theorem rput_7 (next : Int) (hlo : 0 ≤ next ∧ next < 1000000) (H : Nat → Bool) (F : Nat → Fr) (v : Int) : CallsF Try.prog 13 [.bp 0 0, iv (next + 7), .agg (frow v)] [some (.box (qcells next H F))] (iv (if H 7 = true then 251 else 0)) [some (.box (if H 7 = true then qcells next H F else qcells next (upd H 7 true) (upd F 7 (Fr.of v))))] := by
  refine e13 ?_
  conv => whnf
  refine ifB_of (fun hh => absurd (of_decide_eq_true hh) (by omega)) (fun _ => ?_)
  conv => whnf
  rw [wrap_id (n := next + 8) (by omega) (by omega)]
  refine ifB_of (fun hh => absurd (of_decide_eq_true hh) (by omega)) (fun _ => ?_)
  conv => whnf
  rw [show IntKind.wrap .i64 (next + 7 - next) = 7 by rw [wrap_id (by omega) (by omega)]; omega]
  conv => whnf
  cases hh : H 7
  · rw [if_neg (by simp), if_neg (by simp)]
    conv => whnf
    exact ⟨[], [], rfl, rfl, by rfl⟩
  · rw [if_pos rfl, if_pos rfl]
    conv => whnf
    exact ⟨[], [], rfl, rfl, by rw [qcells, hh]; rfl⟩

set_option maxRecDepth 20000 in
set_option maxHeartbeats 2000000 in
theorem rput_8 (next : Int) (hlo : 0 ≤ next ∧ next < 1000000) (H : Nat → Bool) (F : Nat → Fr) (v : Int) : CallsF Try.prog 13 [.bp 0 0, iv (next + 8), .agg (frow v)] [some (.box (qcells next H F))] (iv (if H 8 = true then 251 else 0)) [some (.box (if H 8 = true then qcells next H F else qcells next (upd H 8 true) (upd F 8 (Fr.of v))))] := by
  refine e13 ?_
  conv => whnf
  refine ifB_of (fun hh => absurd (of_decide_eq_true hh) (by omega)) (fun _ => ?_)
  conv => whnf
  rw [wrap_id (n := next + 8) (by omega) (by omega)]
  refine ifB_of (fun hh => absurd (of_decide_eq_true hh) (by omega)) (fun _ => ?_)
  conv => whnf
  rw [show IntKind.wrap .i64 (next + 8 - next) = 8 by rw [wrap_id (by omega) (by omega)]; omega]
  conv => whnf
  cases hh : H 8
  · rw [if_neg (by simp), if_neg (by simp)]
    conv => whnf
    exact ⟨[], [], rfl, rfl, by rfl⟩
  · rw [if_pos rfl, if_pos rfl]
    conv => whnf
    exact ⟨[], [], rfl, rfl, by rw [qcells, hh]; rfl⟩

theorem rput_at (next : Int) (hlo : 0 ≤ next ∧ next < 1000000) (H : Nat → Bool) (F : Nat → Fr) (v : Int) (i : Nat) (hi : i < 9) : CallsF Try.prog 13 [.bp 0 0, iv (next + i), .agg (frow v)] [some (.box (qcells next H F))] (iv (if H i = true then 251 else 0)) [some (.box (if H i = true then qcells next H F else qcells next (upd H i true) (upd F i (Fr.of v))))] := by
  rcases (by omega : i = 0 ∨ i = 1 ∨ i = 2 ∨ i = 3 ∨ i = 4 ∨ i = 5 ∨ i = 6 ∨ i = 7 ∨ i = 8) with rfl | rfl | rfl | rfl | rfl | rfl | rfl | rfl | rfl
  · exact rput_0 next hlo H F v
  · exact rput_1 next hlo H F v
  · exact rput_2 next hlo H F v
  · exact rput_3 next hlo H F v
  · exact rput_4 next hlo H F v
  · exact rput_5 next hlo H F v
  · exact rput_6 next hlo H F v
  · exact rput_7 next hlo H F v
  · exact rput_8 next hlo H F v

end Go.Proofs.TryN

