/- Law 17: GuessAhead: the walk. -/
import Derived.Test.YticofpkggbdnpaaN17T
namespace Go.Proofs.TryN
open Go Go.AL Go.Proofs

theorem rows_closed (l : List Blk) : (l.map Blk.row).all (fun r => r.all closed) = true := by
  rw [List.all_eq_true]
  intro r hr
  obtain ⟨b, _, rfl⟩ := List.mem_map.1 hr
  rfl

theorem aop_store_arr {tm : List (Nat × AV)} {hp : AHeap} {hn n : Nat} {a x : Opd} {b i s : Nat} {rows : List (List AV)} {row new : List AV} (hr : nth rows i = some row) (he : ev tm a = .ep b i 0) (hb : nth hp b = some (some (.arr s rows)))
    (hx : ev tm x = .agg new) (hn' : new.length = n) (hl : row.length = n) (hc : new.all closed = true) : aop tm hp hn (.store n a x) = some (true, .undef, .put b (.arr s (rows.set i new))) := by
  have e1 : Nat.beq new.length n = true := by simp [hn']
  have e2 : splice row 0 new = new := by simp [splice, show row.length ≤ new.length by omega]
  simp only [aop, hx, AV.cells, e1, he, writeAt, hb, hr]
  have e3 : (Nat.ble (0 + new.length) row.length && new.all closed) = true := by simp [hc]; omega
  rw [e3]
  simp only [e2, lset_eq]

set_option maxRecDepth 10000 in
theorem GuessAhead_spec (f : Fld) (p q : Int) (b : Blk) (hp : 0 ≤ p ∧ p ≤ 255) (hq : 0 ≤ q ∧ q ≤ 255) : CallsA Try.prog 5 [f.av, .agg [.int .u8 p, .int .u8 q], b.av] [] (fun r _ => r = .bool true) := by
  refine e5 ?_
  conv => whnf
  refine CallsF.call [] [] first17_spec rfl rfl rfl rfl rfl (.inl rfl) ?_
  conv => whnf
  refine ifB_of (fun h1 => ?_) (fun h1 => ?_)
  · conv => whnf
    exact ⟨[], [], rfl, rfl⟩
  have h1 := of_decide_eq_false h1
  conv => whnf
  refine CallsF.call [] [] (right16_spec f) rfl rfl rfl rfl rfl (.inl rfl) ?_
  conv => whnf
  cases hok : f.ok
  · conv => whnf
    exact ⟨[], [], rfl, rfl⟩
  conv => whnf
  refine CallsF.call [] [] (block16_spec b) rfl rfl rfl rfl rfl (.inl rfl) ?_
  conv => whnf
  cases hbok : b.ok
  · conv => whnf
    exact ⟨[], [], rfl, rfl⟩
  obtain ⟨k1, k2, k3, k4, _, _⟩ := Fld.ok_in hok
  obtain ⟨_, _, _, k5⟩ := mul_in (a := f.a) (d := f.d) (by simp [cntB]; omega) (by simp [cntB]; omega)
  have w1 : IntKind.wrap .i64 (4 * f.a) = 4 * f.a := wrap_id (by omega) (by omega)
  have w2 : IntKind.wrap .i64 (4 * f.d) = 4 * f.d := wrap_id (by omega) (by omega)
  have wp : IntKind.wrap .i64 p = p := wrap_id (by omega) (by omega)
  have wq : IntKind.wrap .i64 q = q := wrap_id (by omega) (by omega)
  obtain ⟨x, hx, x1, x2⟩ : ∃ x, (IntKind.wrap .i64 p).tmod (IntKind.wrap .i64 (4 * f.a)) = x ∧ 0 ≤ x ∧ x < 4 * f.a := by
    rw [wp, w1]
    exact ⟨_, rfl, Int.tmod_nonneg _ (by omega), Int.tmod_lt_of_pos _ (by omega)⟩
  obtain ⟨y, hy, y1, y2⟩ : ∃ y, (IntKind.wrap .i64 q).tmod (IntKind.wrap .i64 (4 * f.d)) = y ∧ 0 ≤ y ∧ y < 4 * f.d := by
    rw [wq, w2]
    exact ⟨_, rfl, Int.tmod_nonneg _ (by omega), Int.tmod_lt_of_pos _ (by omega)⟩
  have hh : f.here x y = true := by simp [Fld.here, inF, hok]; omega
  obtain ⟨_, _, _, _, _, k6, k7, k8, k9, k10⟩ := here_in hh
  obtain ⟨K, hK⟩ : ∃ K : Nat, 4 * f.a * y + x = (K : Nat) := ⟨(4 * f.a * y + x).toNat, by omega⟩
  have hKl : K < f.bs.length := by omega
  obtain ⟨r0, rs, hrs⟩ : ∃ r0 rs, f.bs.map Blk.row = r0 :: rs := by
    cases hb : f.bs with
    | nil => rw [hb] at hKl; simp at hKl
    | cons c cs => exact ⟨c.row, cs.map Blk.row, rfl⟩
  have hlen : rs.length + 1 = f.bs.length := by
    have := congrArg List.length hrs
    simp at this; omega
  have hcl := rows_closed f.bs
  rw [hrs] at hcl ⊢
  conv => whnf
  refine need_of ((by rw [w1]; exact decide_eq_true (by omega))) ?_
  conv => whnf
  refine need_of ((by rw [w2]; exact decide_eq_true (by omega))) ?_
  conv => whnf
  rw [hx, hy]
  conv => whnf
  refine need_of ((by rw [hcl, Bool.and_true]; exact decide_eq_true (by omega))) ?_
  conv => whnf
  have wk : IntKind.wrap .i64 (IntKind.wrap .i64 (IntKind.wrap .i64 (y * 4) * f.a) + x) = (K : Int) := by
    have e : y * 4 * f.a = 4 * f.a * y := by grind
    rw [wrap_id (n := y * 4) (by omega) (by omega), e, wrap_id (n := 4 * f.a * y) (by omega) (by omega), hK, wrap_id (by omega) (by omega)]
  obtain ⟨B, hB⟩ : ∃ B, b.row = B := ⟨_, rfl⟩
  have hBl : B.length = 9 := by rw [← hB]; rfl
  have hBc : B.all closed = true := by rw [← hB]; rfl
  refine LoopA.inv (fun n st => ∃ i : Nat, n + i = f.bs.length ∧ K ≤ i ∧ st = ⟨[(3, .bp 0 0), (5, .bp 1 0), (7, iv x), (8, iv y), (9, .bp 3 0), (10, iv i)], [some (.box [iv f.a, iv f.d, .ri .i64 f.sp, .ro 9 (r0 :: rs)]), some (.box b.row), some (.arr 9 ((mixB f.bs b K i).map Blk.row)), some (.box [iv f.a, iv f.d, .ri .i64 f.sp, .sl 2 0 (rs.length + 1)])], 4, 0⟩) (f.bs.length - K) [3, 5, 7, 8, 9, 10] [0, 2, 3, 4] [] (by rfl) ?_ ?_
  · conv => whnf
    refine ⟨K, by omega, Nat.le_refl _, ?_⟩
    rw [wk, mixB_start, hrs]
    rfl
  rintro n st ⟨i, hn, hKi, rfl⟩
  conv => whnf
  refine ifB_of (fun h2 => ?_) (fun h2 => ?_)
  · have h2 : i < f.bs.length := by have := of_decide_eq_true h2; omega
    have hml := mixB_len (l := f.bs) (b := b) hKi (by omega)
    have hrow : nth ((mixB f.bs b K i).map Blk.row) (0 + (i : Int).toNat) = some ((mixB f.bs b K i)[i]'(by omega)).row := by
      rw [Nat.zero_add, Int.toNat_natCast, nth_get, List.getElem?_map, List.getElem?_eq_getElem (by omega)]; rfl
    conv => whnf
    refine need_of ((decide_eq_true ⟨by omega, by omega⟩)) ?_
    conv => whnf
    rw [aop_store_arr (n := 9) (new := b.row) hrow rfl rfl rfl rfl rfl rfl]
    conv => whnf
    refine ⟨(f.bs.length - (i + 1)), [3, 5, 7, 8, 9, 10], [0, 1, 2, 3], [], by omega, rfl, ?_⟩
    conv => whnf
    refine ⟨i + 1, by omega, by omega, ?_⟩
    rw [inc_nat (by omega), ← mixB_set hKi h2, List.map_set]
    simp only [Nat.zero_add, Int.toNat_natCast]
    rfl
  have h2 : ¬i < f.bs.length := by have := of_decide_eq_false h2; omega
  obtain rfl : i = f.bs.length := by omega
  have hml := mixB_len (l := f.bs) (b := b) hKi (Nat.le_refl _)
  have hnm := near_mix (b := b) (i := f.bs.length) hh hbok hK.symm hKi (Nat.le_refl _)
  have hfv : f.av = .agg [iv f.a, iv f.d, .ri .i64 f.sp, .ro 9 (r0 :: rs)] := by rw [← hrs]; rfl
  obtain ⟨R, hR⟩ : ∃ R, (mixB f.bs b K f.bs.length).map Blk.row = R := ⟨_, rfl⟩
  have hRl : R.length = rs.length + 1 := by rw [← hR, List.length_map, hml]; omega
  have hgv : (⟨f.a, f.d, f.sp, mixB f.bs b K f.bs.length⟩ : Fld).av = .agg [iv f.a, iv f.d, .ri .i64 f.sp, .ro 9 ((R.drop 0).take (rs.length + 1))] := by
    rw [List.drop_zero, ← hRl, List.take_length, ← hR]; rfl
  have t1 := mode_spec f x y
  have t2 := vec_spec f 1 x y
  have t3 := dc_spec f 2 x y
  have t4 := global_spec f x y
  have t5 := near_spec f x y
  have g1 := mode_spec ⟨f.a, f.d, f.sp, mixB f.bs b K f.bs.length⟩ x y
  have g2 := vec_spec ⟨f.a, f.d, f.sp, mixB f.bs b K f.bs.length⟩ 1 x y
  have g3 := dc_spec ⟨f.a, f.d, f.sp, mixB f.bs b K f.bs.length⟩ 2 x y
  have g4 := global_spec ⟨f.a, f.d, f.sp, mixB f.bs b K f.bs.length⟩ x y
  rw [hnm, hgv] at g1 g2 g3 g4
  rw [hfv] at t1 t2 t3 t4 t5
  have nl := near_len f x y
  clear hnm hgv
  generalize nearL f x y = l at *
  obtain ⟨m, hm0, hm3, hm⟩ : ∃ m, 0 ≤ m ∧ m ≤ 3 ∧ modeN l = m := ⟨_, (mode_in l).1, (mode_in l).2, rfl⟩
  obtain ⟨vx, vy, hv, bx1, bx2, by1, by2⟩ : ∃ vx vy, vecN 1 l = .agg [iv vx, iv vy] ∧ (∀ c, c ≤ 0 → (∀ z ∈ l, c ≤ z.x1) → c ≤ vx) ∧ (∀ c, 0 ≤ c → (∀ z ∈ l, z.x1 ≤ c) → vx ≤ c) ∧ (∀ c, c ≤ 0 → (∀ z ∈ l, c ≤ z.y1) → c ≤ vy) ∧ (∀ c, 0 ≤ c → (∀ z ∈ l, z.y1 ≤ c) → vy ≤ c) := by
    have sub : ∀ {v : Blk → Int} {c : Int} {r : Int → Int → Prop}, (∀ z ∈ l, r c (v z)) → ∀ u ∈ (l.filter (selV 1)).map v, r c u := fun h u hu => by
      obtain ⟨z, hz, rfl⟩ := List.mem_map.1 hu
      exact h z (List.mem_filter.1 hz).1
    exact ⟨_, _, rfl, fun c hc h => mid_low hc (sub (r := (· ≤ ·)) h), fun c hc h => mid_high hc (sub (r := fun a b => b ≤ a) h), fun c hc h => mid_low hc (sub (r := (· ≤ ·)) h), fun c hc h => mid_high hc (sub (r := fun a b => b ≤ a) h)⟩
  obtain ⟨dv, hd, bd1, bd2⟩ : ∃ dv, dcN 2 l = dv ∧ (∀ c, c ≤ 0 → (∀ z ∈ l, c ≤ z.d2) → c ≤ dv) ∧ (∀ c, 0 ≤ c → (∀ z ∈ l, z.d2 ≤ c) → dv ≤ c) := by
    have sub : ∀ {v : Blk → Int} {c : Int} {r : Int → Int → Prop}, (∀ z ∈ l, r c (v z)) → ∀ u ∈ (l.filter is0).map v, r c u := fun h u hu => by
      obtain ⟨z, hz, rfl⟩ := List.mem_map.1 hu
      exact h z (List.mem_filter.1 hz).1
    exact ⟨_, rfl, fun c hc h => mean_low hc (sub (r := (· ≤ ·)) h), fun c hc h => mean_high hc (sub (r := fun a b => b ≤ a) h)⟩
  rw [hm] at t1 g1
  rw [hv] at t2 g2
  rw [hd] at t3 g3
  rw [hR]
  conv => whnf
  refine CallsF.call [] [] t1 rfl rfl rfl rfl rfl (.inl rfl) ?_
  conv => whnf
  refine ⟨⟨_, rfl⟩, ?_⟩
  conv => whnf
  refine CallsF.call [] [] t2 rfl rfl rfl rfl rfl (.inl rfl) ?_
  conv => whnf
  refine ⟨⟨_, rfl⟩, ?_⟩
  conv => whnf
  refine CallsF.call [] [] t3 rfl rfl rfl rfl rfl (.inl rfl) ?_
  conv => whnf
  refine CallsF.call [] [2] g1 rfl rfl rfl rfl rfl (.inr rfl) ?_
  conv => whnf
  rw [bne_self_eq_false]
  conv => whnf
  refine CallsF.call [] [2] g2 rfl rfl rfl rfl rfl (.inr rfl) ?_
  conv => whnf
  refine ⟨⟨_, rfl⟩, ?_⟩
  conv => whnf
  rw [vneq]
  conv => whnf
  refine CallsF.call [] [2] g3 rfl rfl rfl rfl rfl (.inr rfl) ?_
  conv => whnf
  rw [bne_self_eq_false]
  conv => whnf
  refine CallsF.call [] [2] g4 rfl rfl rfl rfl rfl (.inr rfl) ?_
  conv => whnf
  refine ⟨⟨_, rfl⟩, ?_⟩
  conv => whnf
  refine CallsF.call [] [] t4 rfl rfl rfl rfl rfl (.inl rfl) ?_
  conv => whnf
  rw [beq_self_eq_true]
  conv => whnf
  refine CallsF.call [] [] t5 rfl rfl rfl rfl rfl (.inl rfl) ?_
  conv => whnf
  obtain ⟨rows, hr⟩ : ∃ rows, l.map Blk.row = rows := ⟨_, rfl⟩
  have hrl : rows.length = l.length := by rw [← hr, List.length_map]
  rw [hr]
  refine LoopA.inv (fun n st => ∃ (i : Nat) (lx ly ld hx hy hd : Int), n + i = l.length ∧ (lx ≤ 0 ∧ ly ≤ 0 ∧ ld ≤ 0 ∧ 0 ≤ hx ∧ 0 ≤ hy ∧ 0 ≤ hd) ∧ (∀ j (hj : j < l.length), j < i → (lx ≤ l[j].x1 ∧ l[j].x1 ≤ hx) ∧ (ly ≤ l[j].y1 ∧ l[j].y1 ≤ hy) ∧ (ld ≤ l[j].d2 ∧ l[j].d2 ≤ hd)) ∧ st = ⟨[(11, iv m), (12, .bp 0 0), (13, iv dv), (14, .bp 1 0), (15, .bp 2 0), (128, .ro 9 rows), (129, iv (rows.length : Nat)), (130, iv i)], [some (.box [iv vx, iv vy]), some (.box [iv 0, .bool false, iv 0, iv 0, iv lx, iv ly, iv 0, iv 0, iv ld]), some (.box [iv 0, .bool false, iv 0, iv 0, iv hx, iv hy, iv 0, iv 0, iv hd])], 3, 0⟩) l.length [11, 12, 13, 14, 15, 128, 129, 130] [4, 5, 6] [] (by rfl) ?_ ?_
  · conv => whnf
    exact ⟨0, 0, 0, 0, 0, 0, 0, rfl, by omega, fun j _ hj => by omega, rfl⟩
  rintro n st ⟨i, lx, ly, ld, hx, hy, hd, hn, hs, ha, rfl⟩
  conv => whnf
  refine ifB_of (fun h3 => ?_) (fun h3 => ?_)
  · have h3 : i < l.length := by have := of_decide_eq_true h3; omega
    have hrow : nth rows (i : Int).toNat = some l[i].row := by
      rw [Int.toNat_natCast, nth_get, ← hr, List.getElem?_map, List.getElem?_eq_getElem h3]; rfl
    conv => whnf
    rw [aop_idxS_ro hrow rfl rfl]
    conv => whnf
    refine ⟨by repeat (first | exact same_nil | refine same_of rfl ?_), ?_⟩
    conv => whnf
    refine ⟨(l.length - (i + 1)), [11, 12, 13, 14, 15, 128, 129, 130], [0, 1, 2], [], by omega, rfl, ?_⟩
    conv => whnf
    refine ⟨i + 1, if l[i].x1 < lx then l[i].x1 else lx, if l[i].y1 < ly then l[i].y1 else ly, if l[i].d2 < ld then l[i].d2 else ld, if l[i].x1 > hx then l[i].x1 else hx, if l[i].y1 > hy then l[i].y1 else hy, if l[i].d2 > hd then l[i].d2 else hd, by omega, ?_, fun j hj hji => ?_, ?_⟩
    · refine ⟨?_, ?_, ?_, ?_, ?_, ?_⟩ <;> split <;> omega
    · by_cases hh : j < i
      · have := ha j hj hh
        refine ⟨⟨?_, ?_⟩, ⟨?_, ?_⟩, ?_, ?_⟩ <;> split <;> omega
      · obtain rfl : j = i := by omega
        refine ⟨⟨?_, ?_⟩, ⟨?_, ?_⟩, ?_, ?_⟩ <;> split <;> omega
    · rw [inc_nat (by omega)]
  have h3 : ¬i < l.length := by have := of_decide_eq_false h3; omega
  have hall : ∀ z ∈ l, (lx ≤ z.x1 ∧ z.x1 ≤ hx) ∧ (ly ≤ z.y1 ∧ z.y1 ≤ hy) ∧ (ld ≤ z.d2 ∧ z.d2 ≤ hd) := fun z hz => by
    obtain ⟨j, hj, rfl⟩ := List.getElem_of_mem hz
    exact ha j hj (by omega)
  conv => whnf
  rw [decide_eq_true (show vx ≥ lx from bx1 lx hs.1 fun z hz => (hall z hz).1.1)]
  conv => whnf
  rw [decide_eq_true (show vx ≤ hx from bx2 hx hs.2.2.2.1 fun z hz => (hall z hz).1.2)]
  conv => whnf
  rw [decide_eq_true (show vy ≥ ly from by1 ly hs.2.1 fun z hz => (hall z hz).2.1.1)]
  conv => whnf
  rw [decide_eq_true (show vy ≤ hy from by2 hy hs.2.2.2.2.1 fun z hz => (hall z hz).2.1.2)]
  conv => whnf
  rw [decide_eq_true (show dv ≥ ld from bd1 ld hs.2.2.1 fun z hz => (hall z hz).2.2.1)]
  conv => whnf
  rw [decide_eq_true (show dv ≤ hd from bd2 hd hs.2.2.2.2.2 fun z hz => (hall z hz).2.2.2)]
  conv => whnf
  rw [decide_eq_true (show m ≥ 0 from hm0)]
  conv => whnf
  exact ⟨[], [], rfl, congrArg AV.bool (decide_eq_true hm3)⟩
end Go.Proofs.TryN

