/- Layer 5: ArithTail: the walk. -/
import Derived.Test.YtamgmfinkgdkjaaDoorN5S
import Derived.Test.YtamgmfinkgdkjaaDoorF57
namespace Go.Proofs.TrydN
open Go Go.AL Go.Proofs

theorem inc_natT {n : Nat} (h : n < 9223372036854775807) : IntKind.wrap .i64 ((n : Int) + 1) = ((n + 1 : Nat) : Int) := by rw [wrap_id (by omega) (by omega)]; rfl

def rowT (x : Int × Bool) : List AV := [iv x.1, .bool x.2]
def takenM (m : Nat) (c : Int) (l : List (Int × Bool)) (i : Nat) : List (Int × Bool) := (l.take (min i m)).filter fun x => hasN c x.1
theorem takenM_has {m : Nat} {c : Int} {l : List (Int × Bool)} {i : Nat} : ∀ x ∈ takenM m c l i, hasN c x.1 = true := fun _ hx => (List.mem_filter.1 hx).2
theorem takenM_len (m : Nat) (c : Int) (l : List (Int × Bool)) (i : Nat) : (takenM m c l i).length ≤ m := by
  unfold takenM
  have h1 := List.length_filter_le (fun x : Int × Bool => hasN c x.1) (l.take (min i m))
  have h2 := List.length_take_le (min i m) l
  omega
theorem takenM_stay {m : Nat} {c : Int} {l : List (Int × Bool)} {i : Nat} (h : m ≤ i) : takenM m c l (i + 1) = takenM m c l i := by
  unfold takenM; rw [Nat.min_eq_right (by omega), Nat.min_eq_right h]
theorem takenM_no {m : Nat} {c : Int} {l : List (Int × Bool)} {i : Nat} (h : i < l.length) (hh : hasN c l[i].1 = false) : takenM m c l (i + 1) = takenM m c l i := by
  by_cases hi : i < m
  · unfold takenM
    rw [Nat.min_eq_left (by omega), Nat.min_eq_left (by omega), List.take_succ_eq_append_getElem h, List.filter_append]
    simp [hh]
  · exact takenM_stay (by omega)
theorem takenM_yes {m : Nat} {c : Int} {l : List (Int × Bool)} {i : Nat} (h : i < l.length) (hi : i < m) (hh : hasN c l[i].1 = true) : takenM m c l (i + 1) = takenM m c l i ++ [l[i]] := by
  unfold takenM
  rw [Nat.min_eq_left (by omega), Nat.min_eq_left (by omega), List.take_succ_eq_append_getElem h, List.filter_append]
  simp [hh]

/-- Noughts behind bytes. -/
theorem rd_zeros (bs : List Int) (n i : Nat) : rdB (bs ++ List.replicate n 0) i = rdB bs i := by
  unfold rdB
  have : (bs ++ List.replicate n 0).getD (i / 8) 0 = bs.getD (i / 8) 0 := by
    simp only [List.getD]
    by_cases h : i / 8 < bs.length
    · rw [List.getElem?_append_left h]
    · rw [List.getElem?_append_right (by omega), List.getElem?_eq_none (l := bs) (by omega), List.getElem?_replicate]
      split <;> rfl
  rw [this]
theorem okB_zeros {bs : List Int} (h : okB bs) (n : Nat) : okB (bs ++ List.replicate n 0) := by
  intro x hx
  rw [List.mem_append] at hx
  rcases hx with hx | hx
  · exact h x hx
  · have := (List.mem_replicate.1 hx).2
    omega

/-- A decoder of no bytes. -/
structure Nought (d : Dec) : Prop where
  low : d.low = 0
  code : d.code = 0
  src : d.src = []
theorem nought_shift {d : Dec} (h : Nought d) (h1 : 1 ≤ d.size) (h2 : d.size ≤ 16384) : Nought d.shift := by
  obtain ⟨a, b, c⟩ := h
  have hs : strad d.low d.size = false := by unfold strad; rw [a]; apply decide_eq_false; omega
  have hr : rdB d.src d.pos = false := by rw [c]; exact rd_out (by simp)
  refine ⟨?_, ?_, c⟩
  · show lowS d.low d.size = 0
    unfold lowS; rw [hs, a]; rfl
  · show codeS d.low d.size d.code + b2i (rdB d.src d.pos) = 0
    unfold codeS; rw [hs, hr, b]; rfl
theorem nought_norm : ∀ (k : Nat) {d : Dec}, Nought d → 1 ≤ d.size → Nought (d.norm k)
  | 0, d, h, _ => h
  | k + 1, d, h, h1 => by
    by_cases hs : d.size ≤ 16384
    · rw [Dec.norm_step hs]; exact nought_norm k (nought_shift h h1 hs) (by show 1 ≤ 2 * d.size; omega)
    · rw [Dec.norm_done hs]; exact h
theorem nought_bit {d : Dec} (h : Nought d) (hk : okD d) {c : Int} (hc : hasC d.p c = true) : d.bit c = false := by
  have kp := partN_in hk.big (by have := hk.s.top; have := hk.s.l0; omega) (hk.s.chance hc)
  unfold Dec.bit
  rw [h.low, h.code]
  apply decide_eq_false
  omega
theorem nought_get {d : Dec} (h : Nought d) (hk : okD d) (c : Int) : d.told c = false ∧ Nought (d.get c) := by
  unfold Dec.told Dec.get
  cases hc : hasC d.p c
  · exact ⟨rfl, h⟩
  have hb := nought_bit h hk hc
  have kp := partN_in hk.big (by have := hk.s.top; have := hk.s.l0; omega) (hk.s.chance hc)
  simp only
  rw [hb]
  refine ⟨rfl, nought_norm 16 (d := d.take c false) ⟨?_, h.code, h.src⟩ ?_⟩
  · show lowT d.low (partN d.size (chance d.p c)) false = 0
    unfold lowT; exact h.low
  · show 1 ≤ sizeT d.size (partN d.size (chance d.p c)) false
    unfold sizeT; simp only; omega
theorem nought_new (c : Int) : Nought (Dec.new [] c) := by
  have hv : ∀ k i, valN [] i k = 0 := by
    intro k i
    induction k with
    | zero => rfl
    | succ k ih =>
      rw [valN, ih, rd_out (by simp)]; rfl
  exact ⟨rfl, hv 16 0, rfl⟩
theorem nought_all (c : Int) (q : List (Int × Bool)) : q.length < 67108000 → Nought (decL [] c q) := by
  refine list_snoc (motive := fun q => q.length < 67108000 → Nought (decL [] c q)) (fun _ => nought_new c) (fun q x ih hl => ?_) q
  simp at hl
  rw [decL_snoc]
  exact (nought_get (ih (by omega)) (decL_ok (bs := []) (fun x hx => by cases hx) (by simp) c q (by omega)).1 x.1).2

theorem asB_ri {xs bs : List Int} (h : xs = bs) (hne : bs ≠ []) : asB (.ri .u8 xs) bs := by subst h; exact .inr (.inr ⟨rfl, hne⟩)

/-- A decoder's three blocks, from k on. -/
abbrev hQ (k : Nat) (d : Dec) : AHeap := [dB k d, pD d.p, rB d.src d.pos d.over]

/-- Where an encoder and what was put stand. -/
def stT (z : Int) (l : List (Int × Bool)) (q : List (Int × Bool)) (i : Nat) (st : St) : Prop :=
  let tm := fun (p : AV) => [(1, AV.int .u8 z), (5, AV.bp 0 0), (6, p), (17, AV.ro 2 (l.map rowT)), (18, iv l.length), (19, iv i)]
  (q = [] ∧ (encL 8 q).bits = [] ∧ st = ⟨tm .snil, hE0 (encL 8 q), 3, 0⟩) ∨
  (q ≠ [] ∧ (encL 8 q).bits = [] ∧ st = ⟨tm (.sl 3 0 q.length), hE0 (encL 8 q) ++ [some (.arr 2 (q.map rowT))], 4, 0⟩) ∨
  (q ≠ [] ∧ (encL 8 q).bits ≠ [] ∧ st = ⟨tm (.sl 4 0 q.length), hE1 (encL 8 q) ++ [some (.arr 2 (q.map rowT))], 5, 0⟩)

set_option maxHeartbeats 2000000 in
set_option maxRecDepth 10000 in
theorem tail_spec (z : Int) (h0 : 0 ≤ z) (hz : z ≤ 255) (l : List (Int × Bool)) (hl : l.length ≤ 9223372036854775807) : CallsF Tryd.prog 6 [.ro 2 (l.map rowT), .int .u8 z] [] (.bool true) [] := by
  have hrow : ∀ i, (h : i < l.length) → nth (l.map rowT) ((i : Nat) : Int).toNat = some (rowT l[i]) := fun i h => by
    rw [Int.toNat_natCast, nth_get, List.getElem?_map, List.getElem?_eq_getElem h]; rfl
  refine e6 ?_
  conv => whnf
  refine CallsF.call [] [] (first5_spec) rfl rfl rfl rfl rfl (.inl rfl) ?_
  conv => whnf
  refine CallsF.call [] [] (newE_spec 8) rfl rfl rfl rfl rfl (.inl rfl) ?_
  conv => whnf
  refine LoopA.inv (fun k st => ∃ i : Nat, i + k = l.length ∧ stT z l (takenM 300 8 l i) i st) l.length [1, 5, 6, 17, 18, 19] [0, 1, 2] [] (by rfl) ?_ ?_
  · conv => whnf
    refine ⟨0, by omega, .inl ⟨by simp [takenM], by simp [takenM, encL, Enc.new], ?_⟩⟩
    rw [show takenM 300 8 l 0 = [] by simp [takenM]]
    simp only [List.length_map]
    rfl
  rintro k st ⟨i, hi, hst⟩
  obtain ⟨q, hq⟩ : ∃ q, takenM 300 8 l i = q := ⟨_, rfl⟩
  have hql : q.length ≤ 300 := by rw [← hq]; exact takenM_len 300 8 l i
  have hok := encL_ok 8 q (by omega)
  rw [hq] at hst
  rcases hst with ⟨hq0, hb, rfl⟩ | ⟨hq0, hb, rfl⟩ | ⟨hq0, hb, rfl⟩
  · conv => whnf
    refine ifB_of (fun hd => ?_) (fun hd => ?_)
    · have hd : i < l.length := by have := of_decide_eq_true hd; omega
      conv => whnf
      rw [aop_idxS_ro (hrow i hd) rfl rfl]
      conv => whnf
      by_cases h4 : i < 300
      · rw [show decide (((i : Nat) : Int) < 300) = true from decide_eq_true (by omega)]
        have sp := put0_spec (encL 8 q) hb hok.1 l[i].1 l[i].2
        conv => whnf
        cases hh : hasN 8 l[i].1
        · rw [hasC_N hok.2.1, hh, show (encL 8 q).put l[i].1 l[i].2 = encL 8 q by unfold Enc.put; rw [hasC_N hok.2.1, hh], hP0_nil hb] at sp
          refine CallsF.call [0, 1, 2] [] (sp) rfl rfl rfl rfl rfl (.inl rfl) ?_
          conv => whnf
          rw [inc_natT (by omega)]
          refine ⟨(l.length - (i + 1)), [1, 5, 6, 17, 18, 19], [0, 1, 2], [], by omega, rfl, ?_⟩
          conv => whnf
          refine ⟨i + 1, by omega, ?_⟩
          rw [takenM_no hd hh, hq]
          exact .inl ⟨hq0, hb, rfl⟩
        · rw [hasC_N hok.2.1, hh, ← encL_snoc] at sp
          have hok2 := encL_ok 8 (q ++ [l[i]]) (by simp; omega)
          subst hq0
          by_cases hb2 : (encL 8 ([] ++ [l[i]])).bits = []
          · rw [hP0_nil hb2] at sp
            refine CallsF.call [0, 1, 2] [] (sp) rfl rfl rfl rfl rfl (.inl rfl) ?_
            conv => whnf
            rw [inc_natT (by omega)]
            refine ⟨(l.length - (i + 1)), [1, 5, 6, 17, 18, 19], [0, 1, 2, 5], [], by omega, rfl, ?_⟩
            conv => whnf
            refine ⟨i + 1, by omega, ?_⟩
            rw [takenM_yes hd h4 hh, hq]
            exact .inr (.inl ⟨by simp, hb2, rfl⟩)
          · rw [hP0_app hb2] at sp
            refine CallsF.call [0, 1, 2] [] (sp) rfl rfl rfl rfl rfl (.inl rfl) ?_
            conv => whnf
            rw [inc_natT (by omega)]
            refine ⟨(l.length - (i + 1)), [1, 5, 6, 17, 18, 19], [0, 1, 2, 4, 6], [], by omega, rfl, ?_⟩
            conv => whnf
            refine ⟨i + 1, by omega, ?_⟩
            rw [takenM_yes hd h4 hh, hq]
            exact .inr (.inr ⟨by simp, hb2, rfl⟩)
      · rw [show decide (((i : Nat) : Int) < 300) = false from decide_eq_false (by omega)]
        conv => whnf
        rw [inc_natT (by omega)]
        refine ⟨(l.length - (i + 1)), [1, 5, 6, 17, 18, 19], [0, 1, 2], [], by omega, rfl, ?_⟩
        conv => whnf
        refine ⟨i + 1, by omega, ?_⟩
        rw [takenM_stay (by omega), hq]
        exact .inl ⟨hq0, hb, rfl⟩
    · have hd := of_decide_eq_false hd
      obtain rfl : i = l.length := by omega
      have hbl : (encL 8 q).bytes.length ≤ 2 * q.length + 2 := by
        have h1 := trim_len (pack (encL 8 q).all)
        have h2 := hok.1.len
        have h3 := hok.2.2
        rw [pack_len, all_len] at h1
        unfold Enc.m at h1
        show (trim (pack (encL 8 q).all)).length ≤ _
        omega
      have hkb : okB (encL 8 q).bytes := okB_trim (okB_pack _)
      have hcl := asB_bytes (encL 8 q).bytes
      have hqh : ∀ x ∈ q, hasN 8 x.1 = true := by rw [← hq]; exact takenM_has
      have told := told_all (bs := (encL 8 q).bytes) (fun i => rd_trim (encL 8 q).all i) (c := 8) (q := q) (by omega) hqh (fits_all hok.1)
      have toldz : ∀ n : Nat, ∀ j, j ≤ q.length → Mir (bitAt (encL 8 q).all) (encL 8 (q.take j)) (decL ((encL 8 q).bytes ++ List.replicate n 0) 8 (q.take j)) ∧ ∀ h : j < q.length, (decL ((encL 8 q).bytes ++ List.replicate n 0) 8 (q.take j)).told q[j].1 = q[j].2 := fun n =>
        told_all (bs := (encL 8 q).bytes ++ List.replicate n 0) (fun i => by rw [rd_zeros]; exact rd_trim (encL 8 q).all i) (c := 8) (q := q) (by omega) hqh (fits_all hok.1)
      have by0 := bytes0_spec (encL 8 q) hb hok.1
      have byo := bytes0o_spec (encL 8 q) hb hok.1
      obtain ⟨n, rfl⟩ : ∃ n : Nat, z = n := ⟨z.toNat, by omega⟩
      generalize (encL 8 q).bytes = bs at *
      rcases bs with _ | ⟨x, xs⟩ <;> rcases n with _ | n
      · have tb : ∀ j, j ≤ q.length → Mir (bitAt (encL 8 q).all) (encL 8 (q.take j)) (decL [] 8 (q.take j)) ∧ ∀ h : j < q.length, (decL [] 8 (q.take j)).told q[j].1 = q[j].2 := told
        have hkz : okB [] := hkb
        have hbz : ([] : List Int).length < 4294967290 := by first | (simp; done) | (simp at hbl ⊢; omega)
        conv => whnf
        refine CallsF.call [0, 1, 2] [] (by0) rfl rfl rfl rfl rfl (.inl rfl) ?_
        conv => whnf
        refine CallsF.call [] [] (newD_spec hcl hkb (by omega) 8) rfl rfl rfl rfl rfl (.inl rfl) ?_
        conv => whnf
        refine CallsF.call [0, 1, 2] [] (byo) rfl rfl rfl rfl rfl (.inl rfl) ?_
        conv => whnf
        refine CallsF.call [] [] (newD_spec (.inr (.inl ⟨rfl, rfl⟩)) hkz hbz 8) rfl rfl rfl rfl rfl (.inl rfl) ?_
        conv => whnf
        refine CallsF.call [] [] (newD_spec (v := .snil) (.inl ⟨rfl, rfl⟩) (fun x hx => by cases hx) (by simp) 8) rfl rfl rfl rfl rfl (.inl rfl) ?_
        conv => whnf
        refine LoopA.inv (fun k st => ∃ j : Nat, j + k = q.length ∧ st = ⟨[(9, .bp 0 0), (10, .bp 3 0), (11, .bp 6 0), (48, .snil), (49, iv q.length), (50, iv j)], hQ 0 (decL [] 8 (q.take j)) ++ hQ 3 (decL [] 8 (q.take j)) ++ hQ 6 (decL [] 8 (q.take j)), 9, 0⟩) q.length [9, 10, 11, 48, 49, 50] [3, 4, 5, 6, 7, 8, 9, 10, 11] [] (by rfl) ?_ ?_
        · conv => whnf
          exact ⟨0, by omega, by subst hq0; rfl⟩
        rintro k2 st ⟨j, hj, rfl⟩
        conv => whnf
        refine ifB_of (fun hd2 => ?_) (fun hd2 => ?_)
        · have hd2 : j < q.length := by have := of_decide_eq_true hd2; omega
          exact absurd hd2 (by rw [hq0]; simp)
        · have hd2 := of_decide_eq_false hd2
          obtain rfl : j = q.length := by omega
          have M := (told q.length (by omega)).1
          have Mz := (tb q.length (by omega)).1
          have hD := decL_ok hkb (by omega) 8 (q.take q.length) (by simp; omega)
          have hpe : (decL [] 8 (q.take q.length)).p = (decL [] 8 (q.take q.length)).p := Mz.p.trans M.p.symm
          have hne : (decL [] 8 (q.take q.length)).p ≠ [] := fun h => by have hpl := hD.2.1; have := ctxN_in 8; rw [h] at hpl; simp only [List.length_nil] at hpl; omega
          have hpl : (decL [] 8 (q.take q.length)).p.length < 4294967296 := by rw [hD.2.1]; have := ctxN_in 8; omega
          conv => whnf
          refine CallsF.call [0, 1, 2] [] (chances2_spec _ _ _ _ _ _ _ _ hne hpl) rfl rfl rfl rfl rfl (.inl rfl) ?_
          conv => whnf
          refine CallsF.call [3, 4, 5] [] (chances2_spec _ _ _ _ _ _ _ _ (by rw [hpe]; exact hne) (by rw [hpe]; exact hpl)) rfl rfl rfl rfl rfl (.inl rfl) ?_
          conv => whnf
          refine CallsF.call [] [] (same_spec _ _ hpl) rfl rfl rfl rfl rfl (.inl rfl) ?_
          conv => whnf
          exact ⟨[], [], rfl, congrArg AV.bool (decide_eq_true hpe.symm), rfl⟩
      · have tb : ∀ j, j ≤ q.length → Mir (bitAt (encL 8 q).all) (encL 8 (q.take j)) (decL (List.replicate (n + 1) 0) 8 (q.take j)) ∧ ∀ h : j < q.length, (decL (List.replicate (n + 1) 0) 8 (q.take j)).told q[j].1 = q[j].2 := toldz (n + 1)
        have hkz : okB (List.replicate (n + 1) 0) := okB_zeros hkb (n + 1)
        have hbz : ((List.replicate (n + 1) 0) : List Int).length < 4294967290 := by first | (simp; done) | (simp at hbl ⊢; omega)
        conv => whnf
        refine CallsF.call [0, 1, 2] [] (by0) rfl rfl rfl rfl rfl (.inl rfl) ?_
        conv => whnf
        refine CallsF.call [] [] (newD_spec hcl hkb (by omega) 8) rfl rfl rfl rfl rfl (.inl rfl) ?_
        conv => whnf
        refine CallsF.call [0, 1, 2] [] (byo) rfl rfl rfl rfl rfl (.inl rfl) ?_
        conv => whnf
        refine need_of ((decide_eq_true ⟨by omega, by simp at hbl ⊢; omega⟩)) ?_
        conv => whnf
        refine CallsA.frz [6] ?_
        conv => whnf
        refine CallsF.call [] [] (newD_spec (v := _) ?_ hkz hbz 8) rfl rfl rfl rfl rfl (.inl rfl) ?_
        · exact asB_ri (by first | (simp; done) | (simp; exact List.take_of_length_le (by simp; omega))) (by simp)
        conv => whnf
        refine CallsF.call [] [] (newD_spec (v := .snil) (.inl ⟨rfl, rfl⟩) (fun x hx => by cases hx) (by simp) 8) rfl rfl rfl rfl rfl (.inl rfl) ?_
        conv => whnf
        refine LoopA.inv (fun k st => ∃ j : Nat, j + k = q.length ∧ st = ⟨[(9, .bp 0 0), (10, .bp 3 0), (11, .bp 6 0), (48, .snil), (49, iv q.length), (50, iv j)], hQ 0 (decL [] 8 (q.take j)) ++ hQ 3 (decL (List.replicate (n + 1) 0) 8 (q.take j)) ++ hQ 6 (decL [] 8 (q.take j)), 9, 0⟩) q.length [9, 10, 11, 48, 49, 50] [3, 4, 5, 7, 8, 9, 10, 11, 12] [] (by rfl) ?_ ?_
        · conv => whnf
          exact ⟨0, by omega, by subst hq0; rfl⟩
        rintro k2 st ⟨j, hj, rfl⟩
        conv => whnf
        refine ifB_of (fun hd2 => ?_) (fun hd2 => ?_)
        · have hd2 : j < q.length := by have := of_decide_eq_true hd2; omega
          exact absurd hd2 (by rw [hq0]; simp)
        · have hd2 := of_decide_eq_false hd2
          obtain rfl : j = q.length := by omega
          have M := (told q.length (by omega)).1
          have Mz := (tb q.length (by omega)).1
          have hD := decL_ok hkb (by omega) 8 (q.take q.length) (by simp; omega)
          have hpe : (decL (List.replicate (n + 1) 0) 8 (q.take q.length)).p = (decL [] 8 (q.take q.length)).p := Mz.p.trans M.p.symm
          have hne : (decL [] 8 (q.take q.length)).p ≠ [] := fun h => by have hpl := hD.2.1; have := ctxN_in 8; rw [h] at hpl; simp only [List.length_nil] at hpl; omega
          have hpl : (decL [] 8 (q.take q.length)).p.length < 4294967296 := by rw [hD.2.1]; have := ctxN_in 8; omega
          conv => whnf
          refine CallsF.call [0, 1, 2] [] (chances2_spec _ _ _ _ _ _ _ _ hne hpl) rfl rfl rfl rfl rfl (.inl rfl) ?_
          conv => whnf
          refine CallsF.call [3, 4, 5] [] (chances2_spec _ _ _ _ _ _ _ _ (by rw [hpe]; exact hne) (by rw [hpe]; exact hpl)) rfl rfl rfl rfl rfl (.inl rfl) ?_
          conv => whnf
          refine CallsF.call [] [] (same_spec _ _ hpl) rfl rfl rfl rfl rfl (.inl rfl) ?_
          conv => whnf
          exact ⟨[], [], rfl, congrArg AV.bool (decide_eq_true hpe.symm), rfl⟩
      · have tb : ∀ j, j ≤ q.length → Mir (bitAt (encL 8 q).all) (encL 8 (q.take j)) (decL (x :: xs) 8 (q.take j)) ∧ ∀ h : j < q.length, (decL (x :: xs) 8 (q.take j)).told q[j].1 = q[j].2 := told
        have hkz : okB (x :: xs) := hkb
        have hbz : ((x :: xs) : List Int).length < 4294967290 := by first | (simp; done) | (simp at hbl ⊢; omega)
        conv => whnf
        refine CallsF.call [0, 1, 2] [] (by0) rfl rfl rfl rfl rfl (.inl rfl) ?_
        conv => whnf
        refine CallsF.call [] [] (newD_spec hcl hkb (by omega) 8) rfl rfl rfl rfl rfl (.inl rfl) ?_
        conv => whnf
        refine CallsF.call [0, 1, 2] [] (byo) rfl rfl rfl rfl rfl (.inl rfl) ?_
        conv => whnf
        refine CallsA.frz [6] ?_
        conv => whnf
        refine CallsF.call [] [] (newD_spec (v := _) ?_ hkz hbz 8) rfl rfl rfl rfl rfl (.inl rfl) ?_
        · exact asB_ri (by first | (simp; done) | (simp; exact List.take_of_length_le (by simp; omega))) (by simp)
        conv => whnf
        refine CallsF.call [] [] (newD_spec (v := .snil) (.inl ⟨rfl, rfl⟩) (fun x hx => by cases hx) (by simp) 8) rfl rfl rfl rfl rfl (.inl rfl) ?_
        conv => whnf
        refine LoopA.inv (fun k st => ∃ j : Nat, j + k = q.length ∧ st = ⟨[(9, .bp 0 0), (10, .bp 3 0), (11, .bp 6 0), (48, .snil), (49, iv q.length), (50, iv j)], hQ 0 (decL (x :: xs) 8 (q.take j)) ++ hQ 3 (decL (x :: xs) 8 (q.take j)) ++ hQ 6 (decL [] 8 (q.take j)), 9, 0⟩) q.length [9, 10, 11, 48, 49, 50] [3, 4, 5, 7, 8, 9, 10, 11, 12] [] (by rfl) ?_ ?_
        · conv => whnf
          exact ⟨0, by omega, by subst hq0; rfl⟩
        rintro k2 st ⟨j, hj, rfl⟩
        conv => whnf
        refine ifB_of (fun hd2 => ?_) (fun hd2 => ?_)
        · have hd2 : j < q.length := by have := of_decide_eq_true hd2; omega
          exact absurd hd2 (by rw [hq0]; simp)
        · have hd2 := of_decide_eq_false hd2
          obtain rfl : j = q.length := by omega
          have M := (told q.length (by omega)).1
          have Mz := (tb q.length (by omega)).1
          have hD := decL_ok hkb (by omega) 8 (q.take q.length) (by simp; omega)
          have hpe : (decL (x :: xs) 8 (q.take q.length)).p = (decL (x :: xs) 8 (q.take q.length)).p := Mz.p.trans M.p.symm
          have hne : (decL (x :: xs) 8 (q.take q.length)).p ≠ [] := fun h => by have hpl := hD.2.1; have := ctxN_in 8; rw [h] at hpl; simp only [List.length_nil] at hpl; omega
          have hpl : (decL (x :: xs) 8 (q.take q.length)).p.length < 4294967296 := by rw [hD.2.1]; have := ctxN_in 8; omega
          conv => whnf
          refine CallsF.call [0, 1, 2] [] (chances2_spec _ _ _ _ _ _ _ _ hne hpl) rfl rfl rfl rfl rfl (.inl rfl) ?_
          conv => whnf
          refine CallsF.call [3, 4, 5] [] (chances2_spec _ _ _ _ _ _ _ _ (by rw [hpe]; exact hne) (by rw [hpe]; exact hpl)) rfl rfl rfl rfl rfl (.inl rfl) ?_
          conv => whnf
          refine CallsF.call [] [] (same_spec _ _ hpl) rfl rfl rfl rfl rfl (.inl rfl) ?_
          conv => whnf
          exact ⟨[], [], rfl, congrArg AV.bool (decide_eq_true hpe.symm), rfl⟩
      · have tb : ∀ j, j ≤ q.length → Mir (bitAt (encL 8 q).all) (encL 8 (q.take j)) (decL ((x :: xs) ++ List.replicate (n + 1) 0) 8 (q.take j)) ∧ ∀ h : j < q.length, (decL ((x :: xs) ++ List.replicate (n + 1) 0) 8 (q.take j)).told q[j].1 = q[j].2 := toldz (n + 1)
        have hkz : okB ((x :: xs) ++ List.replicate (n + 1) 0) := okB_zeros hkb (n + 1)
        have hbz : (((x :: xs) ++ List.replicate (n + 1) 0) : List Int).length < 4294967290 := by first | (simp; done) | (simp at hbl ⊢; omega)
        conv => whnf
        refine CallsF.call [0, 1, 2] [] (by0) rfl rfl rfl rfl rfl (.inl rfl) ?_
        conv => whnf
        refine CallsF.call [] [] (newD_spec hcl hkb (by omega) 8) rfl rfl rfl rfl rfl (.inl rfl) ?_
        conv => whnf
        refine CallsF.call [0, 1, 2] [] (byo) rfl rfl rfl rfl rfl (.inl rfl) ?_
        conv => whnf
        refine need_of ((decide_eq_true ⟨by omega, by simp, by simp at hbl ⊢; omega⟩)) ?_
        conv => whnf
        refine CallsA.frz [7] ?_
        conv => whnf
        refine CallsF.call [] [] (newD_spec (v := _) ?_ hkz hbz 8) rfl rfl rfl rfl rfl (.inl rfl) ?_
        · exact asB_ri (by first | (simp; done) | (simp; exact List.take_of_length_le (by simp; omega))) (by simp)
        conv => whnf
        refine CallsF.call [] [] (newD_spec (v := .snil) (.inl ⟨rfl, rfl⟩) (fun x hx => by cases hx) (by simp) 8) rfl rfl rfl rfl rfl (.inl rfl) ?_
        conv => whnf
        refine LoopA.inv (fun k st => ∃ j : Nat, j + k = q.length ∧ st = ⟨[(9, .bp 0 0), (10, .bp 3 0), (11, .bp 6 0), (48, .snil), (49, iv q.length), (50, iv j)], hQ 0 (decL (x :: xs) 8 (q.take j)) ++ hQ 3 (decL ((x :: xs) ++ List.replicate (n + 1) 0) 8 (q.take j)) ++ hQ 6 (decL [] 8 (q.take j)), 9, 0⟩) q.length [9, 10, 11, 48, 49, 50] [3, 4, 5, 8, 9, 10, 11, 12, 13] [] (by rfl) ?_ ?_
        · conv => whnf
          exact ⟨0, by omega, by subst hq0; rfl⟩
        rintro k2 st ⟨j, hj, rfl⟩
        conv => whnf
        refine ifB_of (fun hd2 => ?_) (fun hd2 => ?_)
        · have hd2 : j < q.length := by have := of_decide_eq_true hd2; omega
          exact absurd hd2 (by rw [hq0]; simp)
        · have hd2 := of_decide_eq_false hd2
          obtain rfl : j = q.length := by omega
          have M := (told q.length (by omega)).1
          have Mz := (tb q.length (by omega)).1
          have hD := decL_ok hkb (by omega) 8 (q.take q.length) (by simp; omega)
          have hpe : (decL ((x :: xs) ++ List.replicate (n + 1) 0) 8 (q.take q.length)).p = (decL (x :: xs) 8 (q.take q.length)).p := Mz.p.trans M.p.symm
          have hne : (decL (x :: xs) 8 (q.take q.length)).p ≠ [] := fun h => by have hpl := hD.2.1; have := ctxN_in 8; rw [h] at hpl; simp only [List.length_nil] at hpl; omega
          have hpl : (decL (x :: xs) 8 (q.take q.length)).p.length < 4294967296 := by rw [hD.2.1]; have := ctxN_in 8; omega
          conv => whnf
          refine CallsF.call [0, 1, 2] [] (chances2_spec _ _ _ _ _ _ _ _ hne hpl) rfl rfl rfl rfl rfl (.inl rfl) ?_
          conv => whnf
          refine CallsF.call [3, 4, 5] [] (chances2_spec _ _ _ _ _ _ _ _ (by rw [hpe]; exact hne) (by rw [hpe]; exact hpl)) rfl rfl rfl rfl rfl (.inl rfl) ?_
          conv => whnf
          refine CallsF.call [] [] (same_spec _ _ hpl) rfl rfl rfl rfl rfl (.inl rfl) ?_
          conv => whnf
          exact ⟨[], [], rfl, congrArg AV.bool (decide_eq_true hpe.symm), rfl⟩
  · conv => whnf
    refine ifB_of (fun hd => ?_) (fun hd => ?_)
    · have hd : i < l.length := by have := of_decide_eq_true hd; omega
      conv => whnf
      rw [aop_idxS_ro (hrow i hd) rfl rfl]
      conv => whnf
      by_cases h4 : i < 300
      · rw [show decide (((i : Nat) : Int) < 300) = true from decide_eq_true (by omega)]
        have sp := put0_spec (encL 8 q) hb hok.1 l[i].1 l[i].2
        conv => whnf
        cases hh : hasN 8 l[i].1
        · rw [hasC_N hok.2.1, hh, show (encL 8 q).put l[i].1 l[i].2 = encL 8 q by unfold Enc.put; rw [hasC_N hok.2.1, hh], hP0_nil hb] at sp
          refine CallsF.call [0, 1, 2] [] (sp) rfl rfl rfl rfl rfl (.inl rfl) ?_
          conv => whnf
          rw [inc_natT (by omega)]
          refine ⟨(l.length - (i + 1)), [1, 5, 6, 17, 18, 19], [0, 1, 2, 3], [], by omega, rfl, ?_⟩
          conv => whnf
          refine ⟨i + 1, by omega, ?_⟩
          rw [takenM_no hd hh, hq]
          exact .inr (.inl ⟨hq0, hb, rfl⟩)
        · rw [hasC_N hok.2.1, hh, ← encL_snoc] at sp
          have hok2 := encL_ok 8 (q ++ [l[i]]) (by simp; omega)
          by_cases hb2 : (encL 8 (q ++ [l[i]])).bits = []
          · rw [hP0_nil hb2] at sp
            refine CallsF.call [0, 1, 2] [] (sp) rfl rfl rfl rfl rfl (.inl rfl) ?_
            conv => whnf
            refine need_of ((by rw [Bool.and_eq_true]; exact ⟨decide_eq_true ⟨by simp, show (16 + 1) * (q.length + 1) ≤ 2 ^ 46 by omega⟩, rfl⟩)) ?_
            conv => whnf
            rw [inc_natT (by omega)]
            refine ⟨(l.length - (i + 1)), [1, 5, 6, 17, 18, 19], [0, 1, 2, 6], [], by omega, rfl, ?_⟩
            conv => whnf
            refine ⟨i + 1, by omega, ?_⟩
            rw [takenM_yes hd h4 hh, hq]
            refine .inr (.inl ⟨by simp, hb2, ?_⟩)
            rw [List.map_append, List.length_append]
            rfl
          · rw [hP0_app hb2] at sp
            refine CallsF.call [0, 1, 2] [] (sp) rfl rfl rfl rfl rfl (.inl rfl) ?_
            conv => whnf
            refine need_of ((by rw [Bool.and_eq_true]; exact ⟨decide_eq_true ⟨by simp, show (16 + 1) * (q.length + 1) ≤ 2 ^ 46 by omega⟩, rfl⟩)) ?_
            conv => whnf
            rw [inc_natT (by omega)]
            refine ⟨(l.length - (i + 1)), [1, 5, 6, 17, 18, 19], [0, 1, 2, 5, 7], [], by omega, rfl, ?_⟩
            conv => whnf
            refine ⟨i + 1, by omega, ?_⟩
            rw [takenM_yes hd h4 hh, hq]
            refine .inr (.inr ⟨by simp, hb2, ?_⟩)
            rw [List.map_append, List.length_append]
            rfl
      · rw [show decide (((i : Nat) : Int) < 300) = false from decide_eq_false (by omega)]
        conv => whnf
        rw [inc_natT (by omega)]
        refine ⟨(l.length - (i + 1)), [1, 5, 6, 17, 18, 19], [0, 1, 2, 3], [], by omega, rfl, ?_⟩
        conv => whnf
        refine ⟨i + 1, by omega, ?_⟩
        rw [takenM_stay (by omega), hq]
        exact .inr (.inl ⟨hq0, hb, rfl⟩)
    · have hd := of_decide_eq_false hd
      obtain rfl : i = l.length := by omega
      have hbl : (encL 8 q).bytes.length ≤ 2 * q.length + 2 := by
        have h1 := trim_len (pack (encL 8 q).all)
        have h2 := hok.1.len
        have h3 := hok.2.2
        rw [pack_len, all_len] at h1
        unfold Enc.m at h1
        show (trim (pack (encL 8 q).all)).length ≤ _
        omega
      have hkb : okB (encL 8 q).bytes := okB_trim (okB_pack _)
      have hcl := asB_bytes (encL 8 q).bytes
      have hqh : ∀ x ∈ q, hasN 8 x.1 = true := by rw [← hq]; exact takenM_has
      have told := told_all (bs := (encL 8 q).bytes) (fun i => rd_trim (encL 8 q).all i) (c := 8) (q := q) (by omega) hqh (fits_all hok.1)
      have toldz : ∀ n : Nat, ∀ j, j ≤ q.length → Mir (bitAt (encL 8 q).all) (encL 8 (q.take j)) (decL ((encL 8 q).bytes ++ List.replicate n 0) 8 (q.take j)) ∧ ∀ h : j < q.length, (decL ((encL 8 q).bytes ++ List.replicate n 0) 8 (q.take j)).told q[j].1 = q[j].2 := fun n =>
        told_all (bs := (encL 8 q).bytes ++ List.replicate n 0) (fun i => by rw [rd_zeros]; exact rd_trim (encL 8 q).all i) (c := 8) (q := q) (by omega) hqh (fits_all hok.1)
      have by0 := bytes0_spec (encL 8 q) hb hok.1
      have byo := bytes0o_spec (encL 8 q) hb hok.1
      obtain ⟨n, rfl⟩ : ∃ n : Nat, z = n := ⟨z.toNat, by omega⟩
      generalize (encL 8 q).bytes = bs at *
      rcases bs with _ | ⟨x, xs⟩ <;> rcases n with _ | n
      · have tb : ∀ j, j ≤ q.length → Mir (bitAt (encL 8 q).all) (encL 8 (q.take j)) (decL [] 8 (q.take j)) ∧ ∀ h : j < q.length, (decL [] 8 (q.take j)).told q[j].1 = q[j].2 := told
        have hkz : okB [] := hkb
        have hbz : ([] : List Int).length < 4294967290 := by first | (simp; done) | (simp at hbl ⊢; omega)
        conv => whnf
        refine CallsF.call [0, 1, 2] [] (by0) rfl rfl rfl rfl rfl (.inl rfl) ?_
        conv => whnf
        refine CallsF.call [] [] (newD_spec hcl hkb (by omega) 8) rfl rfl rfl rfl rfl (.inl rfl) ?_
        conv => whnf
        refine CallsF.call [0, 1, 2] [] (byo) rfl rfl rfl rfl rfl (.inl rfl) ?_
        conv => whnf
        refine CallsF.call [] [] (newD_spec (.inr (.inl ⟨rfl, rfl⟩)) hkz hbz 8) rfl rfl rfl rfl rfl (.inl rfl) ?_
        conv => whnf
        refine CallsF.call [] [] (newD_spec (v := .snil) (.inl ⟨rfl, rfl⟩) (fun x hx => by cases hx) (by simp) 8) rfl rfl rfl rfl rfl (.inl rfl) ?_
        conv => whnf
        refine LoopA.inv (fun k st => ∃ j : Nat, j + k = q.length ∧ st = ⟨[(9, .bp 0 0), (10, .bp 3 0), (11, .bp 6 0), (48, .ro 2 (((q.map rowT).drop 0).take q.length)), (49, iv q.length), (50, iv j)], hQ 0 (decL [] 8 (q.take j)) ++ hQ 3 (decL [] 8 (q.take j)) ++ hQ 6 (decL [] 8 (q.take j)), 9, 0⟩) q.length [9, 10, 11, 48, 49, 50] [4, 5, 6, 7, 8, 9, 10, 11, 12] [3] (by rfl) ?_ ?_
        · conv => whnf
          exact ⟨0, by omega, rfl⟩
        rintro k2 st ⟨j, hj, rfl⟩
        conv => whnf
        refine ifB_of (fun hd2 => ?_) (fun hd2 => ?_)
        · have hd2 : j < q.length := by have := of_decide_eq_true hd2; omega
          have hrq : nth (((q.map rowT).drop 0).take q.length) ((j : Nat) : Int).toNat = some (rowT q[j]) := by
            rw [List.drop_zero, List.take_of_length_le (by simp), Int.toNat_natCast, nth_get, List.getElem?_map, List.getElem?_eq_getElem hd2]; rfl
          have hD := decL_ok hkb (by omega) 8 (q.take j) (by simp; omega)
          have hZ := decL_ok hkz hbz 8 (q.take j) (by simp; omega)
          have hN := decL_ok (bs := []) (fun x hx => by cases hx) (by simp) 8 (q.take j) (by simp; omega)
          have sp := dget_spec (decL [] 8 (q.take j)) hD.1 q[j].1
          rw [(told j (by omega)).2 hd2, ← decL_snoc, ← List.take_succ_eq_append_getElem hd2] at sp
          have sz := dget_spec (decL [] 8 (q.take j)) hZ.1 q[j].1
          rw [(tb j (by omega)).2 hd2, ← decL_snoc, ← List.take_succ_eq_append_getElem hd2] at sz
          have sn := dget_spec (decL [] 8 (q.take j)) hN.1 q[j].1
          rw [(nought_get (nought_all 8 (q.take j) (by simp; omega)) hN.1 q[j].1).1, ← decL_snoc, ← List.take_succ_eq_append_getElem hd2] at sn
          conv => whnf
          rw [aop_idxS_ro hrq rfl rfl]
          conv => whnf
          refine CallsF.call [0, 1, 2] [] (sp) rfl rfl rfl rfl rfl (.inl rfl) ?_
          conv => whnf
          refine ⟨.inr (by repeat (first | exact same_nil | refine same_of rfl ?_)), ?_⟩
          conv => whnf
          rw [show (q[j].2 == q[j].2) = true from beq_self_eq_true _]
          conv => whnf
          refine CallsF.call [3, 4, 5] [] (sz) rfl rfl rfl rfl rfl (.inl rfl) ?_
          conv => whnf
          refine ⟨.inr (by repeat (first | exact same_nil | refine same_of rfl ?_)), ?_⟩
          conv => whnf
          rw [show (q[j].2 == q[j].2) = true from beq_self_eq_true _]
          conv => whnf
          refine CallsF.call [6, 7, 8] [] (sn) rfl rfl rfl rfl rfl (.inl rfl) ?_
          conv => whnf
          rw [inc_natT (by omega)]
          refine ⟨(q.length - (j + 1)), [9, 10, 11, 48, 49, 50], [0, 1, 2, 3, 4, 5, 6, 7, 8], [], by omega, rfl, ?_⟩
          conv => whnf
          exact ⟨j + 1, by omega, rfl⟩
        · have hd2 := of_decide_eq_false hd2
          obtain rfl : j = q.length := by omega
          have M := (told q.length (by omega)).1
          have Mz := (tb q.length (by omega)).1
          have hD := decL_ok hkb (by omega) 8 (q.take q.length) (by simp; omega)
          have hpe : (decL [] 8 (q.take q.length)).p = (decL [] 8 (q.take q.length)).p := Mz.p.trans M.p.symm
          have hne : (decL [] 8 (q.take q.length)).p ≠ [] := fun h => by have hpl := hD.2.1; have := ctxN_in 8; rw [h] at hpl; simp only [List.length_nil] at hpl; omega
          have hpl : (decL [] 8 (q.take q.length)).p.length < 4294967296 := by rw [hD.2.1]; have := ctxN_in 8; omega
          conv => whnf
          refine CallsF.call [0, 1, 2] [] (chances2_spec _ _ _ _ _ _ _ _ hne hpl) rfl rfl rfl rfl rfl (.inl rfl) ?_
          conv => whnf
          refine CallsF.call [3, 4, 5] [] (chances2_spec _ _ _ _ _ _ _ _ (by rw [hpe]; exact hne) (by rw [hpe]; exact hpl)) rfl rfl rfl rfl rfl (.inl rfl) ?_
          conv => whnf
          refine CallsF.call [] [] (same_spec _ _ hpl) rfl rfl rfl rfl rfl (.inl rfl) ?_
          conv => whnf
          exact ⟨[], [], rfl, congrArg AV.bool (decide_eq_true hpe.symm), rfl⟩
      · have tb : ∀ j, j ≤ q.length → Mir (bitAt (encL 8 q).all) (encL 8 (q.take j)) (decL (List.replicate (n + 1) 0) 8 (q.take j)) ∧ ∀ h : j < q.length, (decL (List.replicate (n + 1) 0) 8 (q.take j)).told q[j].1 = q[j].2 := toldz (n + 1)
        have hkz : okB (List.replicate (n + 1) 0) := okB_zeros hkb (n + 1)
        have hbz : ((List.replicate (n + 1) 0) : List Int).length < 4294967290 := by first | (simp; done) | (simp at hbl ⊢; omega)
        conv => whnf
        refine CallsF.call [0, 1, 2] [] (by0) rfl rfl rfl rfl rfl (.inl rfl) ?_
        conv => whnf
        refine CallsF.call [] [] (newD_spec hcl hkb (by omega) 8) rfl rfl rfl rfl rfl (.inl rfl) ?_
        conv => whnf
        refine CallsF.call [0, 1, 2] [] (byo) rfl rfl rfl rfl rfl (.inl rfl) ?_
        conv => whnf
        refine need_of ((decide_eq_true ⟨by omega, by simp at hbl ⊢; omega⟩)) ?_
        conv => whnf
        refine CallsA.frz [7] ?_
        conv => whnf
        refine CallsF.call [] [] (newD_spec (v := _) ?_ hkz hbz 8) rfl rfl rfl rfl rfl (.inl rfl) ?_
        · exact asB_ri (by first | (simp; done) | (simp; exact List.take_of_length_le (by simp; omega))) (by simp)
        conv => whnf
        refine CallsF.call [] [] (newD_spec (v := .snil) (.inl ⟨rfl, rfl⟩) (fun x hx => by cases hx) (by simp) 8) rfl rfl rfl rfl rfl (.inl rfl) ?_
        conv => whnf
        refine LoopA.inv (fun k st => ∃ j : Nat, j + k = q.length ∧ st = ⟨[(9, .bp 0 0), (10, .bp 3 0), (11, .bp 6 0), (48, .ro 2 (((q.map rowT).drop 0).take q.length)), (49, iv q.length), (50, iv j)], hQ 0 (decL [] 8 (q.take j)) ++ hQ 3 (decL (List.replicate (n + 1) 0) 8 (q.take j)) ++ hQ 6 (decL [] 8 (q.take j)), 9, 0⟩) q.length [9, 10, 11, 48, 49, 50] [4, 5, 6, 8, 9, 10, 11, 12, 13] [3] (by rfl) ?_ ?_
        · conv => whnf
          exact ⟨0, by omega, rfl⟩
        rintro k2 st ⟨j, hj, rfl⟩
        conv => whnf
        refine ifB_of (fun hd2 => ?_) (fun hd2 => ?_)
        · have hd2 : j < q.length := by have := of_decide_eq_true hd2; omega
          have hrq : nth (((q.map rowT).drop 0).take q.length) ((j : Nat) : Int).toNat = some (rowT q[j]) := by
            rw [List.drop_zero, List.take_of_length_le (by simp), Int.toNat_natCast, nth_get, List.getElem?_map, List.getElem?_eq_getElem hd2]; rfl
          have hD := decL_ok hkb (by omega) 8 (q.take j) (by simp; omega)
          have hZ := decL_ok hkz hbz 8 (q.take j) (by simp; omega)
          have hN := decL_ok (bs := []) (fun x hx => by cases hx) (by simp) 8 (q.take j) (by simp; omega)
          have sp := dget_spec (decL [] 8 (q.take j)) hD.1 q[j].1
          rw [(told j (by omega)).2 hd2, ← decL_snoc, ← List.take_succ_eq_append_getElem hd2] at sp
          have sz := dget_spec (decL (List.replicate (n + 1) 0) 8 (q.take j)) hZ.1 q[j].1
          rw [(tb j (by omega)).2 hd2, ← decL_snoc, ← List.take_succ_eq_append_getElem hd2] at sz
          have sn := dget_spec (decL [] 8 (q.take j)) hN.1 q[j].1
          rw [(nought_get (nought_all 8 (q.take j) (by simp; omega)) hN.1 q[j].1).1, ← decL_snoc, ← List.take_succ_eq_append_getElem hd2] at sn
          conv => whnf
          rw [aop_idxS_ro hrq rfl rfl]
          conv => whnf
          refine CallsF.call [0, 1, 2] [] (sp) rfl rfl rfl rfl rfl (.inl rfl) ?_
          conv => whnf
          refine ⟨.inr (by repeat (first | exact same_nil | refine same_of rfl ?_)), ?_⟩
          conv => whnf
          rw [show (q[j].2 == q[j].2) = true from beq_self_eq_true _]
          conv => whnf
          refine CallsF.call [3, 4, 5] [] (sz) rfl rfl rfl rfl rfl (.inl rfl) ?_
          conv => whnf
          refine ⟨.inr (by repeat (first | exact same_nil | refine same_of rfl ?_)), ?_⟩
          conv => whnf
          rw [show (q[j].2 == q[j].2) = true from beq_self_eq_true _]
          conv => whnf
          refine CallsF.call [6, 7, 8] [] (sn) rfl rfl rfl rfl rfl (.inl rfl) ?_
          conv => whnf
          rw [inc_natT (by omega)]
          refine ⟨(q.length - (j + 1)), [9, 10, 11, 48, 49, 50], [0, 1, 2, 3, 4, 5, 6, 7, 8], [], by omega, rfl, ?_⟩
          conv => whnf
          exact ⟨j + 1, by omega, rfl⟩
        · have hd2 := of_decide_eq_false hd2
          obtain rfl : j = q.length := by omega
          have M := (told q.length (by omega)).1
          have Mz := (tb q.length (by omega)).1
          have hD := decL_ok hkb (by omega) 8 (q.take q.length) (by simp; omega)
          have hpe : (decL (List.replicate (n + 1) 0) 8 (q.take q.length)).p = (decL [] 8 (q.take q.length)).p := Mz.p.trans M.p.symm
          have hne : (decL [] 8 (q.take q.length)).p ≠ [] := fun h => by have hpl := hD.2.1; have := ctxN_in 8; rw [h] at hpl; simp only [List.length_nil] at hpl; omega
          have hpl : (decL [] 8 (q.take q.length)).p.length < 4294967296 := by rw [hD.2.1]; have := ctxN_in 8; omega
          conv => whnf
          refine CallsF.call [0, 1, 2] [] (chances2_spec _ _ _ _ _ _ _ _ hne hpl) rfl rfl rfl rfl rfl (.inl rfl) ?_
          conv => whnf
          refine CallsF.call [3, 4, 5] [] (chances2_spec _ _ _ _ _ _ _ _ (by rw [hpe]; exact hne) (by rw [hpe]; exact hpl)) rfl rfl rfl rfl rfl (.inl rfl) ?_
          conv => whnf
          refine CallsF.call [] [] (same_spec _ _ hpl) rfl rfl rfl rfl rfl (.inl rfl) ?_
          conv => whnf
          exact ⟨[], [], rfl, congrArg AV.bool (decide_eq_true hpe.symm), rfl⟩
      · have tb : ∀ j, j ≤ q.length → Mir (bitAt (encL 8 q).all) (encL 8 (q.take j)) (decL (x :: xs) 8 (q.take j)) ∧ ∀ h : j < q.length, (decL (x :: xs) 8 (q.take j)).told q[j].1 = q[j].2 := told
        have hkz : okB (x :: xs) := hkb
        have hbz : ((x :: xs) : List Int).length < 4294967290 := by first | (simp; done) | (simp at hbl ⊢; omega)
        conv => whnf
        refine CallsF.call [0, 1, 2] [] (by0) rfl rfl rfl rfl rfl (.inl rfl) ?_
        conv => whnf
        refine CallsF.call [] [] (newD_spec hcl hkb (by omega) 8) rfl rfl rfl rfl rfl (.inl rfl) ?_
        conv => whnf
        refine CallsF.call [0, 1, 2] [] (byo) rfl rfl rfl rfl rfl (.inl rfl) ?_
        conv => whnf
        refine CallsA.frz [7] ?_
        conv => whnf
        refine CallsF.call [] [] (newD_spec (v := _) ?_ hkz hbz 8) rfl rfl rfl rfl rfl (.inl rfl) ?_
        · exact asB_ri (by first | (simp; done) | (simp; exact List.take_of_length_le (by simp; omega))) (by simp)
        conv => whnf
        refine CallsF.call [] [] (newD_spec (v := .snil) (.inl ⟨rfl, rfl⟩) (fun x hx => by cases hx) (by simp) 8) rfl rfl rfl rfl rfl (.inl rfl) ?_
        conv => whnf
        refine LoopA.inv (fun k st => ∃ j : Nat, j + k = q.length ∧ st = ⟨[(9, .bp 0 0), (10, .bp 3 0), (11, .bp 6 0), (48, .ro 2 (((q.map rowT).drop 0).take q.length)), (49, iv q.length), (50, iv j)], hQ 0 (decL (x :: xs) 8 (q.take j)) ++ hQ 3 (decL (x :: xs) 8 (q.take j)) ++ hQ 6 (decL [] 8 (q.take j)), 9, 0⟩) q.length [9, 10, 11, 48, 49, 50] [4, 5, 6, 8, 9, 10, 11, 12, 13] [3] (by rfl) ?_ ?_
        · conv => whnf
          exact ⟨0, by omega, rfl⟩
        rintro k2 st ⟨j, hj, rfl⟩
        conv => whnf
        refine ifB_of (fun hd2 => ?_) (fun hd2 => ?_)
        · have hd2 : j < q.length := by have := of_decide_eq_true hd2; omega
          have hrq : nth (((q.map rowT).drop 0).take q.length) ((j : Nat) : Int).toNat = some (rowT q[j]) := by
            rw [List.drop_zero, List.take_of_length_le (by simp), Int.toNat_natCast, nth_get, List.getElem?_map, List.getElem?_eq_getElem hd2]; rfl
          have hD := decL_ok hkb (by omega) 8 (q.take j) (by simp; omega)
          have hZ := decL_ok hkz hbz 8 (q.take j) (by simp; omega)
          have hN := decL_ok (bs := []) (fun x hx => by cases hx) (by simp) 8 (q.take j) (by simp; omega)
          have sp := dget_spec (decL (x :: xs) 8 (q.take j)) hD.1 q[j].1
          rw [(told j (by omega)).2 hd2, ← decL_snoc, ← List.take_succ_eq_append_getElem hd2] at sp
          have sz := dget_spec (decL (x :: xs) 8 (q.take j)) hZ.1 q[j].1
          rw [(tb j (by omega)).2 hd2, ← decL_snoc, ← List.take_succ_eq_append_getElem hd2] at sz
          have sn := dget_spec (decL [] 8 (q.take j)) hN.1 q[j].1
          rw [(nought_get (nought_all 8 (q.take j) (by simp; omega)) hN.1 q[j].1).1, ← decL_snoc, ← List.take_succ_eq_append_getElem hd2] at sn
          conv => whnf
          rw [aop_idxS_ro hrq rfl rfl]
          conv => whnf
          refine CallsF.call [0, 1, 2] [] (sp) rfl rfl rfl rfl rfl (.inl rfl) ?_
          conv => whnf
          refine ⟨.inr (by repeat (first | exact same_nil | refine same_of rfl ?_)), ?_⟩
          conv => whnf
          rw [show (q[j].2 == q[j].2) = true from beq_self_eq_true _]
          conv => whnf
          refine CallsF.call [3, 4, 5] [] (sz) rfl rfl rfl rfl rfl (.inl rfl) ?_
          conv => whnf
          refine ⟨.inr (by repeat (first | exact same_nil | refine same_of rfl ?_)), ?_⟩
          conv => whnf
          rw [show (q[j].2 == q[j].2) = true from beq_self_eq_true _]
          conv => whnf
          refine CallsF.call [6, 7, 8] [] (sn) rfl rfl rfl rfl rfl (.inl rfl) ?_
          conv => whnf
          rw [inc_natT (by omega)]
          refine ⟨(q.length - (j + 1)), [9, 10, 11, 48, 49, 50], [0, 1, 2, 3, 4, 5, 6, 7, 8], [], by omega, rfl, ?_⟩
          conv => whnf
          exact ⟨j + 1, by omega, rfl⟩
        · have hd2 := of_decide_eq_false hd2
          obtain rfl : j = q.length := by omega
          have M := (told q.length (by omega)).1
          have Mz := (tb q.length (by omega)).1
          have hD := decL_ok hkb (by omega) 8 (q.take q.length) (by simp; omega)
          have hpe : (decL (x :: xs) 8 (q.take q.length)).p = (decL (x :: xs) 8 (q.take q.length)).p := Mz.p.trans M.p.symm
          have hne : (decL (x :: xs) 8 (q.take q.length)).p ≠ [] := fun h => by have hpl := hD.2.1; have := ctxN_in 8; rw [h] at hpl; simp only [List.length_nil] at hpl; omega
          have hpl : (decL (x :: xs) 8 (q.take q.length)).p.length < 4294967296 := by rw [hD.2.1]; have := ctxN_in 8; omega
          conv => whnf
          refine CallsF.call [0, 1, 2] [] (chances2_spec _ _ _ _ _ _ _ _ hne hpl) rfl rfl rfl rfl rfl (.inl rfl) ?_
          conv => whnf
          refine CallsF.call [3, 4, 5] [] (chances2_spec _ _ _ _ _ _ _ _ (by rw [hpe]; exact hne) (by rw [hpe]; exact hpl)) rfl rfl rfl rfl rfl (.inl rfl) ?_
          conv => whnf
          refine CallsF.call [] [] (same_spec _ _ hpl) rfl rfl rfl rfl rfl (.inl rfl) ?_
          conv => whnf
          exact ⟨[], [], rfl, congrArg AV.bool (decide_eq_true hpe.symm), rfl⟩
      · have tb : ∀ j, j ≤ q.length → Mir (bitAt (encL 8 q).all) (encL 8 (q.take j)) (decL ((x :: xs) ++ List.replicate (n + 1) 0) 8 (q.take j)) ∧ ∀ h : j < q.length, (decL ((x :: xs) ++ List.replicate (n + 1) 0) 8 (q.take j)).told q[j].1 = q[j].2 := toldz (n + 1)
        have hkz : okB ((x :: xs) ++ List.replicate (n + 1) 0) := okB_zeros hkb (n + 1)
        have hbz : (((x :: xs) ++ List.replicate (n + 1) 0) : List Int).length < 4294967290 := by first | (simp; done) | (simp at hbl ⊢; omega)
        conv => whnf
        refine CallsF.call [0, 1, 2] [] (by0) rfl rfl rfl rfl rfl (.inl rfl) ?_
        conv => whnf
        refine CallsF.call [] [] (newD_spec hcl hkb (by omega) 8) rfl rfl rfl rfl rfl (.inl rfl) ?_
        conv => whnf
        refine CallsF.call [0, 1, 2] [] (byo) rfl rfl rfl rfl rfl (.inl rfl) ?_
        conv => whnf
        refine need_of ((decide_eq_true ⟨by omega, by simp, by simp at hbl ⊢; omega⟩)) ?_
        conv => whnf
        refine CallsA.frz [8] ?_
        conv => whnf
        refine CallsF.call [] [] (newD_spec (v := _) ?_ hkz hbz 8) rfl rfl rfl rfl rfl (.inl rfl) ?_
        · exact asB_ri (by first | (simp; done) | (simp; exact List.take_of_length_le (by simp; omega))) (by simp)
        conv => whnf
        refine CallsF.call [] [] (newD_spec (v := .snil) (.inl ⟨rfl, rfl⟩) (fun x hx => by cases hx) (by simp) 8) rfl rfl rfl rfl rfl (.inl rfl) ?_
        conv => whnf
        refine LoopA.inv (fun k st => ∃ j : Nat, j + k = q.length ∧ st = ⟨[(9, .bp 0 0), (10, .bp 3 0), (11, .bp 6 0), (48, .ro 2 (((q.map rowT).drop 0).take q.length)), (49, iv q.length), (50, iv j)], hQ 0 (decL (x :: xs) 8 (q.take j)) ++ hQ 3 (decL ((x :: xs) ++ List.replicate (n + 1) 0) 8 (q.take j)) ++ hQ 6 (decL [] 8 (q.take j)), 9, 0⟩) q.length [9, 10, 11, 48, 49, 50] [4, 5, 6, 9, 10, 11, 12, 13, 14] [3] (by rfl) ?_ ?_
        · conv => whnf
          exact ⟨0, by omega, rfl⟩
        rintro k2 st ⟨j, hj, rfl⟩
        conv => whnf
        refine ifB_of (fun hd2 => ?_) (fun hd2 => ?_)
        · have hd2 : j < q.length := by have := of_decide_eq_true hd2; omega
          have hrq : nth (((q.map rowT).drop 0).take q.length) ((j : Nat) : Int).toNat = some (rowT q[j]) := by
            rw [List.drop_zero, List.take_of_length_le (by simp), Int.toNat_natCast, nth_get, List.getElem?_map, List.getElem?_eq_getElem hd2]; rfl
          have hD := decL_ok hkb (by omega) 8 (q.take j) (by simp; omega)
          have hZ := decL_ok hkz hbz 8 (q.take j) (by simp; omega)
          have hN := decL_ok (bs := []) (fun x hx => by cases hx) (by simp) 8 (q.take j) (by simp; omega)
          have sp := dget_spec (decL (x :: xs) 8 (q.take j)) hD.1 q[j].1
          rw [(told j (by omega)).2 hd2, ← decL_snoc, ← List.take_succ_eq_append_getElem hd2] at sp
          have sz := dget_spec (decL ((x :: xs) ++ List.replicate (n + 1) 0) 8 (q.take j)) hZ.1 q[j].1
          rw [(tb j (by omega)).2 hd2, ← decL_snoc, ← List.take_succ_eq_append_getElem hd2] at sz
          have sn := dget_spec (decL [] 8 (q.take j)) hN.1 q[j].1
          rw [(nought_get (nought_all 8 (q.take j) (by simp; omega)) hN.1 q[j].1).1, ← decL_snoc, ← List.take_succ_eq_append_getElem hd2] at sn
          conv => whnf
          rw [aop_idxS_ro hrq rfl rfl]
          conv => whnf
          refine CallsF.call [0, 1, 2] [] (sp) rfl rfl rfl rfl rfl (.inl rfl) ?_
          conv => whnf
          refine ⟨.inr (by repeat (first | exact same_nil | refine same_of rfl ?_)), ?_⟩
          conv => whnf
          rw [show (q[j].2 == q[j].2) = true from beq_self_eq_true _]
          conv => whnf
          refine CallsF.call [3, 4, 5] [] (sz) rfl rfl rfl rfl rfl (.inl rfl) ?_
          conv => whnf
          refine ⟨.inr (by repeat (first | exact same_nil | refine same_of rfl ?_)), ?_⟩
          conv => whnf
          rw [show (q[j].2 == q[j].2) = true from beq_self_eq_true _]
          conv => whnf
          refine CallsF.call [6, 7, 8] [] (sn) rfl rfl rfl rfl rfl (.inl rfl) ?_
          conv => whnf
          rw [inc_natT (by omega)]
          refine ⟨(q.length - (j + 1)), [9, 10, 11, 48, 49, 50], [0, 1, 2, 3, 4, 5, 6, 7, 8], [], by omega, rfl, ?_⟩
          conv => whnf
          exact ⟨j + 1, by omega, rfl⟩
        · have hd2 := of_decide_eq_false hd2
          obtain rfl : j = q.length := by omega
          have M := (told q.length (by omega)).1
          have Mz := (tb q.length (by omega)).1
          have hD := decL_ok hkb (by omega) 8 (q.take q.length) (by simp; omega)
          have hpe : (decL ((x :: xs) ++ List.replicate (n + 1) 0) 8 (q.take q.length)).p = (decL (x :: xs) 8 (q.take q.length)).p := Mz.p.trans M.p.symm
          have hne : (decL (x :: xs) 8 (q.take q.length)).p ≠ [] := fun h => by have hpl := hD.2.1; have := ctxN_in 8; rw [h] at hpl; simp only [List.length_nil] at hpl; omega
          have hpl : (decL (x :: xs) 8 (q.take q.length)).p.length < 4294967296 := by rw [hD.2.1]; have := ctxN_in 8; omega
          conv => whnf
          refine CallsF.call [0, 1, 2] [] (chances2_spec _ _ _ _ _ _ _ _ hne hpl) rfl rfl rfl rfl rfl (.inl rfl) ?_
          conv => whnf
          refine CallsF.call [3, 4, 5] [] (chances2_spec _ _ _ _ _ _ _ _ (by rw [hpe]; exact hne) (by rw [hpe]; exact hpl)) rfl rfl rfl rfl rfl (.inl rfl) ?_
          conv => whnf
          refine CallsF.call [] [] (same_spec _ _ hpl) rfl rfl rfl rfl rfl (.inl rfl) ?_
          conv => whnf
          exact ⟨[], [], rfl, congrArg AV.bool (decide_eq_true hpe.symm), rfl⟩
  · conv => whnf
    refine ifB_of (fun hd => ?_) (fun hd => ?_)
    · have hd : i < l.length := by have := of_decide_eq_true hd; omega
      conv => whnf
      rw [aop_idxS_ro (hrow i hd) rfl rfl]
      conv => whnf
      by_cases h4 : i < 300
      · rw [show decide (((i : Nat) : Int) < 300) = true from decide_eq_true (by omega)]
        have sp := put1_spec (encL 8 q) hok.1 l[i].1 l[i].2
        conv => whnf
        cases hh : hasN 8 l[i].1
        · rw [hasC_N hok.2.1, hh, show (encL 8 q).put l[i].1 l[i].2 = encL 8 q by unfold Enc.put; rw [hasC_N hok.2.1, hh]] at sp
          refine CallsF.call [0, 1, 2, 3] [] (sp) rfl rfl rfl rfl rfl (.inl rfl) ?_
          conv => whnf
          rw [inc_natT (by omega)]
          refine ⟨(l.length - (i + 1)), [1, 5, 6, 17, 18, 19], [0, 1, 2, 6, 4], [], by omega, rfl, ?_⟩
          conv => whnf
          refine ⟨i + 1, by omega, ?_⟩
          rw [takenM_no hd hh, hq]
          exact .inr (.inr ⟨hq0, hb, rfl⟩)
        · rw [hasC_N hok.2.1, hh, ← encL_snoc] at sp
          have hok2 := encL_ok 8 (q ++ [l[i]]) (by simp; omega)
          have hb2 : (encL 8 (q ++ [l[i]])).bits ≠ [] := by rw [encL_snoc]; exact put_bits hb _ _
          refine CallsF.call [0, 1, 2, 3] [] (sp) rfl rfl rfl rfl rfl (.inl rfl) ?_
          conv => whnf
          refine need_of ((by rw [Bool.and_eq_true]; exact ⟨decide_eq_true ⟨by simp, show (16 + 1) * (q.length + 1) ≤ 2 ^ 46 by omega⟩, rfl⟩)) ?_
          conv => whnf
          rw [inc_natT (by omega)]
          refine ⟨(l.length - (i + 1)), [1, 5, 6, 17, 18, 19], [0, 1, 2, 6, 8], [], by omega, rfl, ?_⟩
          conv => whnf
          refine ⟨i + 1, by omega, ?_⟩
          rw [takenM_yes hd h4 hh, hq]
          refine .inr (.inr ⟨by simp, hb2, ?_⟩)
          rw [List.map_append, List.length_append]
          rfl
      · rw [show decide (((i : Nat) : Int) < 300) = false from decide_eq_false (by omega)]
        conv => whnf
        rw [inc_natT (by omega)]
        refine ⟨(l.length - (i + 1)), [1, 5, 6, 17, 18, 19], [0, 1, 2, 3, 4], [], by omega, rfl, ?_⟩
        conv => whnf
        refine ⟨i + 1, by omega, ?_⟩
        rw [takenM_stay (by omega), hq]
        exact .inr (.inr ⟨hq0, hb, rfl⟩)
    · have hd := of_decide_eq_false hd
      obtain rfl : i = l.length := by omega
      have hbl : (encL 8 q).bytes.length ≤ 2 * q.length + 2 := by
        have h1 := trim_len (pack (encL 8 q).all)
        have h2 := hok.1.len
        have h3 := hok.2.2
        rw [pack_len, all_len] at h1
        unfold Enc.m at h1
        show (trim (pack (encL 8 q).all)).length ≤ _
        omega
      have hkb : okB (encL 8 q).bytes := okB_trim (okB_pack _)
      have hcl := asB_bytes (encL 8 q).bytes
      have hqh : ∀ x ∈ q, hasN 8 x.1 = true := by rw [← hq]; exact takenM_has
      have told := told_all (bs := (encL 8 q).bytes) (fun i => rd_trim (encL 8 q).all i) (c := 8) (q := q) (by omega) hqh (fits_all hok.1)
      have toldz : ∀ n : Nat, ∀ j, j ≤ q.length → Mir (bitAt (encL 8 q).all) (encL 8 (q.take j)) (decL ((encL 8 q).bytes ++ List.replicate n 0) 8 (q.take j)) ∧ ∀ h : j < q.length, (decL ((encL 8 q).bytes ++ List.replicate n 0) 8 (q.take j)).told q[j].1 = q[j].2 := fun n =>
        told_all (bs := (encL 8 q).bytes ++ List.replicate n 0) (fun i => by rw [rd_zeros]; exact rd_trim (encL 8 q).all i) (c := 8) (q := q) (by omega) hqh (fits_all hok.1)
      have by0 := bytes1_spec (encL 8 q) hb hok.1
      have byo := bytes1o_spec (encL 8 q) hb hok.1
      obtain ⟨n, rfl⟩ : ∃ n : Nat, z = n := ⟨z.toNat, by omega⟩
      generalize (encL 8 q).bytes = bs at *
      rcases bs with _ | ⟨x, xs⟩ <;> rcases n with _ | n
      · have tb : ∀ j, j ≤ q.length → Mir (bitAt (encL 8 q).all) (encL 8 (q.take j)) (decL [] 8 (q.take j)) ∧ ∀ h : j < q.length, (decL [] 8 (q.take j)).told q[j].1 = q[j].2 := told
        have hkz : okB [] := hkb
        have hbz : ([] : List Int).length < 4294967290 := by first | (simp; done) | (simp at hbl ⊢; omega)
        conv => whnf
        refine CallsF.call [0, 1, 2, 3] [] (by0) rfl rfl rfl rfl rfl (.inl rfl) ?_
        conv => whnf
        refine CallsF.call [] [] (newD_spec hcl hkb (by omega) 8) rfl rfl rfl rfl rfl (.inl rfl) ?_
        conv => whnf
        refine CallsF.call [0, 1, 2, 3] [] (byo) rfl rfl rfl rfl rfl (.inl rfl) ?_
        conv => whnf
        refine CallsF.call [] [] (newD_spec (.inr (.inl ⟨rfl, rfl⟩)) hkz hbz 8) rfl rfl rfl rfl rfl (.inl rfl) ?_
        conv => whnf
        refine CallsF.call [] [] (newD_spec (v := .snil) (.inl ⟨rfl, rfl⟩) (fun x hx => by cases hx) (by simp) 8) rfl rfl rfl rfl rfl (.inl rfl) ?_
        conv => whnf
        refine LoopA.inv (fun k st => ∃ j : Nat, j + k = q.length ∧ st = ⟨[(9, .bp 0 0), (10, .bp 3 0), (11, .bp 6 0), (48, .ro 2 (((q.map rowT).drop 0).take q.length)), (49, iv q.length), (50, iv j)], hQ 0 (decL [] 8 (q.take j)) ++ hQ 3 (decL [] 8 (q.take j)) ++ hQ 6 (decL [] 8 (q.take j)), 9, 0⟩) q.length [9, 10, 11, 48, 49, 50] [5, 6, 7, 8, 9, 10, 11, 12, 13] [4] (by rfl) ?_ ?_
        · conv => whnf
          exact ⟨0, by omega, rfl⟩
        rintro k2 st ⟨j, hj, rfl⟩
        conv => whnf
        refine ifB_of (fun hd2 => ?_) (fun hd2 => ?_)
        · have hd2 : j < q.length := by have := of_decide_eq_true hd2; omega
          have hrq : nth (((q.map rowT).drop 0).take q.length) ((j : Nat) : Int).toNat = some (rowT q[j]) := by
            rw [List.drop_zero, List.take_of_length_le (by simp), Int.toNat_natCast, nth_get, List.getElem?_map, List.getElem?_eq_getElem hd2]; rfl
          have hD := decL_ok hkb (by omega) 8 (q.take j) (by simp; omega)
          have hZ := decL_ok hkz hbz 8 (q.take j) (by simp; omega)
          have hN := decL_ok (bs := []) (fun x hx => by cases hx) (by simp) 8 (q.take j) (by simp; omega)
          have sp := dget_spec (decL [] 8 (q.take j)) hD.1 q[j].1
          rw [(told j (by omega)).2 hd2, ← decL_snoc, ← List.take_succ_eq_append_getElem hd2] at sp
          have sz := dget_spec (decL [] 8 (q.take j)) hZ.1 q[j].1
          rw [(tb j (by omega)).2 hd2, ← decL_snoc, ← List.take_succ_eq_append_getElem hd2] at sz
          have sn := dget_spec (decL [] 8 (q.take j)) hN.1 q[j].1
          rw [(nought_get (nought_all 8 (q.take j) (by simp; omega)) hN.1 q[j].1).1, ← decL_snoc, ← List.take_succ_eq_append_getElem hd2] at sn
          conv => whnf
          rw [aop_idxS_ro hrq rfl rfl]
          conv => whnf
          refine CallsF.call [0, 1, 2] [] (sp) rfl rfl rfl rfl rfl (.inl rfl) ?_
          conv => whnf
          refine ⟨.inr (by repeat (first | exact same_nil | refine same_of rfl ?_)), ?_⟩
          conv => whnf
          rw [show (q[j].2 == q[j].2) = true from beq_self_eq_true _]
          conv => whnf
          refine CallsF.call [3, 4, 5] [] (sz) rfl rfl rfl rfl rfl (.inl rfl) ?_
          conv => whnf
          refine ⟨.inr (by repeat (first | exact same_nil | refine same_of rfl ?_)), ?_⟩
          conv => whnf
          rw [show (q[j].2 == q[j].2) = true from beq_self_eq_true _]
          conv => whnf
          refine CallsF.call [6, 7, 8] [] (sn) rfl rfl rfl rfl rfl (.inl rfl) ?_
          conv => whnf
          rw [inc_natT (by omega)]
          refine ⟨(q.length - (j + 1)), [9, 10, 11, 48, 49, 50], [0, 1, 2, 3, 4, 5, 6, 7, 8], [], by omega, rfl, ?_⟩
          conv => whnf
          exact ⟨j + 1, by omega, rfl⟩
        · have hd2 := of_decide_eq_false hd2
          obtain rfl : j = q.length := by omega
          have M := (told q.length (by omega)).1
          have Mz := (tb q.length (by omega)).1
          have hD := decL_ok hkb (by omega) 8 (q.take q.length) (by simp; omega)
          have hpe : (decL [] 8 (q.take q.length)).p = (decL [] 8 (q.take q.length)).p := Mz.p.trans M.p.symm
          have hne : (decL [] 8 (q.take q.length)).p ≠ [] := fun h => by have hpl := hD.2.1; have := ctxN_in 8; rw [h] at hpl; simp only [List.length_nil] at hpl; omega
          have hpl : (decL [] 8 (q.take q.length)).p.length < 4294967296 := by rw [hD.2.1]; have := ctxN_in 8; omega
          conv => whnf
          refine CallsF.call [0, 1, 2] [] (chances2_spec _ _ _ _ _ _ _ _ hne hpl) rfl rfl rfl rfl rfl (.inl rfl) ?_
          conv => whnf
          refine CallsF.call [3, 4, 5] [] (chances2_spec _ _ _ _ _ _ _ _ (by rw [hpe]; exact hne) (by rw [hpe]; exact hpl)) rfl rfl rfl rfl rfl (.inl rfl) ?_
          conv => whnf
          refine CallsF.call [] [] (same_spec _ _ hpl) rfl rfl rfl rfl rfl (.inl rfl) ?_
          conv => whnf
          exact ⟨[], [], rfl, congrArg AV.bool (decide_eq_true hpe.symm), rfl⟩
      · have tb : ∀ j, j ≤ q.length → Mir (bitAt (encL 8 q).all) (encL 8 (q.take j)) (decL (List.replicate (n + 1) 0) 8 (q.take j)) ∧ ∀ h : j < q.length, (decL (List.replicate (n + 1) 0) 8 (q.take j)).told q[j].1 = q[j].2 := toldz (n + 1)
        have hkz : okB (List.replicate (n + 1) 0) := okB_zeros hkb (n + 1)
        have hbz : ((List.replicate (n + 1) 0) : List Int).length < 4294967290 := by first | (simp; done) | (simp at hbl ⊢; omega)
        conv => whnf
        refine CallsF.call [0, 1, 2, 3] [] (by0) rfl rfl rfl rfl rfl (.inl rfl) ?_
        conv => whnf
        refine CallsF.call [] [] (newD_spec hcl hkb (by omega) 8) rfl rfl rfl rfl rfl (.inl rfl) ?_
        conv => whnf
        refine CallsF.call [0, 1, 2, 3] [] (byo) rfl rfl rfl rfl rfl (.inl rfl) ?_
        conv => whnf
        refine need_of ((decide_eq_true ⟨by omega, by simp at hbl ⊢; omega⟩)) ?_
        conv => whnf
        refine CallsA.frz [8] ?_
        conv => whnf
        refine CallsF.call [] [] (newD_spec (v := _) ?_ hkz hbz 8) rfl rfl rfl rfl rfl (.inl rfl) ?_
        · exact asB_ri (by first | (simp; done) | (simp; exact List.take_of_length_le (by simp; omega))) (by simp)
        conv => whnf
        refine CallsF.call [] [] (newD_spec (v := .snil) (.inl ⟨rfl, rfl⟩) (fun x hx => by cases hx) (by simp) 8) rfl rfl rfl rfl rfl (.inl rfl) ?_
        conv => whnf
        refine LoopA.inv (fun k st => ∃ j : Nat, j + k = q.length ∧ st = ⟨[(9, .bp 0 0), (10, .bp 3 0), (11, .bp 6 0), (48, .ro 2 (((q.map rowT).drop 0).take q.length)), (49, iv q.length), (50, iv j)], hQ 0 (decL [] 8 (q.take j)) ++ hQ 3 (decL (List.replicate (n + 1) 0) 8 (q.take j)) ++ hQ 6 (decL [] 8 (q.take j)), 9, 0⟩) q.length [9, 10, 11, 48, 49, 50] [5, 6, 7, 9, 10, 11, 12, 13, 14] [4] (by rfl) ?_ ?_
        · conv => whnf
          exact ⟨0, by omega, rfl⟩
        rintro k2 st ⟨j, hj, rfl⟩
        conv => whnf
        refine ifB_of (fun hd2 => ?_) (fun hd2 => ?_)
        · have hd2 : j < q.length := by have := of_decide_eq_true hd2; omega
          have hrq : nth (((q.map rowT).drop 0).take q.length) ((j : Nat) : Int).toNat = some (rowT q[j]) := by
            rw [List.drop_zero, List.take_of_length_le (by simp), Int.toNat_natCast, nth_get, List.getElem?_map, List.getElem?_eq_getElem hd2]; rfl
          have hD := decL_ok hkb (by omega) 8 (q.take j) (by simp; omega)
          have hZ := decL_ok hkz hbz 8 (q.take j) (by simp; omega)
          have hN := decL_ok (bs := []) (fun x hx => by cases hx) (by simp) 8 (q.take j) (by simp; omega)
          have sp := dget_spec (decL [] 8 (q.take j)) hD.1 q[j].1
          rw [(told j (by omega)).2 hd2, ← decL_snoc, ← List.take_succ_eq_append_getElem hd2] at sp
          have sz := dget_spec (decL (List.replicate (n + 1) 0) 8 (q.take j)) hZ.1 q[j].1
          rw [(tb j (by omega)).2 hd2, ← decL_snoc, ← List.take_succ_eq_append_getElem hd2] at sz
          have sn := dget_spec (decL [] 8 (q.take j)) hN.1 q[j].1
          rw [(nought_get (nought_all 8 (q.take j) (by simp; omega)) hN.1 q[j].1).1, ← decL_snoc, ← List.take_succ_eq_append_getElem hd2] at sn
          conv => whnf
          rw [aop_idxS_ro hrq rfl rfl]
          conv => whnf
          refine CallsF.call [0, 1, 2] [] (sp) rfl rfl rfl rfl rfl (.inl rfl) ?_
          conv => whnf
          refine ⟨.inr (by repeat (first | exact same_nil | refine same_of rfl ?_)), ?_⟩
          conv => whnf
          rw [show (q[j].2 == q[j].2) = true from beq_self_eq_true _]
          conv => whnf
          refine CallsF.call [3, 4, 5] [] (sz) rfl rfl rfl rfl rfl (.inl rfl) ?_
          conv => whnf
          refine ⟨.inr (by repeat (first | exact same_nil | refine same_of rfl ?_)), ?_⟩
          conv => whnf
          rw [show (q[j].2 == q[j].2) = true from beq_self_eq_true _]
          conv => whnf
          refine CallsF.call [6, 7, 8] [] (sn) rfl rfl rfl rfl rfl (.inl rfl) ?_
          conv => whnf
          rw [inc_natT (by omega)]
          refine ⟨(q.length - (j + 1)), [9, 10, 11, 48, 49, 50], [0, 1, 2, 3, 4, 5, 6, 7, 8], [], by omega, rfl, ?_⟩
          conv => whnf
          exact ⟨j + 1, by omega, rfl⟩
        · have hd2 := of_decide_eq_false hd2
          obtain rfl : j = q.length := by omega
          have M := (told q.length (by omega)).1
          have Mz := (tb q.length (by omega)).1
          have hD := decL_ok hkb (by omega) 8 (q.take q.length) (by simp; omega)
          have hpe : (decL (List.replicate (n + 1) 0) 8 (q.take q.length)).p = (decL [] 8 (q.take q.length)).p := Mz.p.trans M.p.symm
          have hne : (decL [] 8 (q.take q.length)).p ≠ [] := fun h => by have hpl := hD.2.1; have := ctxN_in 8; rw [h] at hpl; simp only [List.length_nil] at hpl; omega
          have hpl : (decL [] 8 (q.take q.length)).p.length < 4294967296 := by rw [hD.2.1]; have := ctxN_in 8; omega
          conv => whnf
          refine CallsF.call [0, 1, 2] [] (chances2_spec _ _ _ _ _ _ _ _ hne hpl) rfl rfl rfl rfl rfl (.inl rfl) ?_
          conv => whnf
          refine CallsF.call [3, 4, 5] [] (chances2_spec _ _ _ _ _ _ _ _ (by rw [hpe]; exact hne) (by rw [hpe]; exact hpl)) rfl rfl rfl rfl rfl (.inl rfl) ?_
          conv => whnf
          refine CallsF.call [] [] (same_spec _ _ hpl) rfl rfl rfl rfl rfl (.inl rfl) ?_
          conv => whnf
          exact ⟨[], [], rfl, congrArg AV.bool (decide_eq_true hpe.symm), rfl⟩
      · have tb : ∀ j, j ≤ q.length → Mir (bitAt (encL 8 q).all) (encL 8 (q.take j)) (decL (x :: xs) 8 (q.take j)) ∧ ∀ h : j < q.length, (decL (x :: xs) 8 (q.take j)).told q[j].1 = q[j].2 := told
        have hkz : okB (x :: xs) := hkb
        have hbz : ((x :: xs) : List Int).length < 4294967290 := by first | (simp; done) | (simp at hbl ⊢; omega)
        conv => whnf
        refine CallsF.call [0, 1, 2, 3] [] (by0) rfl rfl rfl rfl rfl (.inl rfl) ?_
        conv => whnf
        refine CallsF.call [] [] (newD_spec hcl hkb (by omega) 8) rfl rfl rfl rfl rfl (.inl rfl) ?_
        conv => whnf
        refine CallsF.call [0, 1, 2, 3] [] (byo) rfl rfl rfl rfl rfl (.inl rfl) ?_
        conv => whnf
        refine CallsA.frz [8] ?_
        conv => whnf
        refine CallsF.call [] [] (newD_spec (v := _) ?_ hkz hbz 8) rfl rfl rfl rfl rfl (.inl rfl) ?_
        · exact asB_ri (by first | (simp; done) | (simp; exact List.take_of_length_le (by simp; omega))) (by simp)
        conv => whnf
        refine CallsF.call [] [] (newD_spec (v := .snil) (.inl ⟨rfl, rfl⟩) (fun x hx => by cases hx) (by simp) 8) rfl rfl rfl rfl rfl (.inl rfl) ?_
        conv => whnf
        refine LoopA.inv (fun k st => ∃ j : Nat, j + k = q.length ∧ st = ⟨[(9, .bp 0 0), (10, .bp 3 0), (11, .bp 6 0), (48, .ro 2 (((q.map rowT).drop 0).take q.length)), (49, iv q.length), (50, iv j)], hQ 0 (decL (x :: xs) 8 (q.take j)) ++ hQ 3 (decL (x :: xs) 8 (q.take j)) ++ hQ 6 (decL [] 8 (q.take j)), 9, 0⟩) q.length [9, 10, 11, 48, 49, 50] [5, 6, 7, 9, 10, 11, 12, 13, 14] [4] (by rfl) ?_ ?_
        · conv => whnf
          exact ⟨0, by omega, rfl⟩
        rintro k2 st ⟨j, hj, rfl⟩
        conv => whnf
        refine ifB_of (fun hd2 => ?_) (fun hd2 => ?_)
        · have hd2 : j < q.length := by have := of_decide_eq_true hd2; omega
          have hrq : nth (((q.map rowT).drop 0).take q.length) ((j : Nat) : Int).toNat = some (rowT q[j]) := by
            rw [List.drop_zero, List.take_of_length_le (by simp), Int.toNat_natCast, nth_get, List.getElem?_map, List.getElem?_eq_getElem hd2]; rfl
          have hD := decL_ok hkb (by omega) 8 (q.take j) (by simp; omega)
          have hZ := decL_ok hkz hbz 8 (q.take j) (by simp; omega)
          have hN := decL_ok (bs := []) (fun x hx => by cases hx) (by simp) 8 (q.take j) (by simp; omega)
          have sp := dget_spec (decL (x :: xs) 8 (q.take j)) hD.1 q[j].1
          rw [(told j (by omega)).2 hd2, ← decL_snoc, ← List.take_succ_eq_append_getElem hd2] at sp
          have sz := dget_spec (decL (x :: xs) 8 (q.take j)) hZ.1 q[j].1
          rw [(tb j (by omega)).2 hd2, ← decL_snoc, ← List.take_succ_eq_append_getElem hd2] at sz
          have sn := dget_spec (decL [] 8 (q.take j)) hN.1 q[j].1
          rw [(nought_get (nought_all 8 (q.take j) (by simp; omega)) hN.1 q[j].1).1, ← decL_snoc, ← List.take_succ_eq_append_getElem hd2] at sn
          conv => whnf
          rw [aop_idxS_ro hrq rfl rfl]
          conv => whnf
          refine CallsF.call [0, 1, 2] [] (sp) rfl rfl rfl rfl rfl (.inl rfl) ?_
          conv => whnf
          refine ⟨.inr (by repeat (first | exact same_nil | refine same_of rfl ?_)), ?_⟩
          conv => whnf
          rw [show (q[j].2 == q[j].2) = true from beq_self_eq_true _]
          conv => whnf
          refine CallsF.call [3, 4, 5] [] (sz) rfl rfl rfl rfl rfl (.inl rfl) ?_
          conv => whnf
          refine ⟨.inr (by repeat (first | exact same_nil | refine same_of rfl ?_)), ?_⟩
          conv => whnf
          rw [show (q[j].2 == q[j].2) = true from beq_self_eq_true _]
          conv => whnf
          refine CallsF.call [6, 7, 8] [] (sn) rfl rfl rfl rfl rfl (.inl rfl) ?_
          conv => whnf
          rw [inc_natT (by omega)]
          refine ⟨(q.length - (j + 1)), [9, 10, 11, 48, 49, 50], [0, 1, 2, 3, 4, 5, 6, 7, 8], [], by omega, rfl, ?_⟩
          conv => whnf
          exact ⟨j + 1, by omega, rfl⟩
        · have hd2 := of_decide_eq_false hd2
          obtain rfl : j = q.length := by omega
          have M := (told q.length (by omega)).1
          have Mz := (tb q.length (by omega)).1
          have hD := decL_ok hkb (by omega) 8 (q.take q.length) (by simp; omega)
          have hpe : (decL (x :: xs) 8 (q.take q.length)).p = (decL (x :: xs) 8 (q.take q.length)).p := Mz.p.trans M.p.symm
          have hne : (decL (x :: xs) 8 (q.take q.length)).p ≠ [] := fun h => by have hpl := hD.2.1; have := ctxN_in 8; rw [h] at hpl; simp only [List.length_nil] at hpl; omega
          have hpl : (decL (x :: xs) 8 (q.take q.length)).p.length < 4294967296 := by rw [hD.2.1]; have := ctxN_in 8; omega
          conv => whnf
          refine CallsF.call [0, 1, 2] [] (chances2_spec _ _ _ _ _ _ _ _ hne hpl) rfl rfl rfl rfl rfl (.inl rfl) ?_
          conv => whnf
          refine CallsF.call [3, 4, 5] [] (chances2_spec _ _ _ _ _ _ _ _ (by rw [hpe]; exact hne) (by rw [hpe]; exact hpl)) rfl rfl rfl rfl rfl (.inl rfl) ?_
          conv => whnf
          refine CallsF.call [] [] (same_spec _ _ hpl) rfl rfl rfl rfl rfl (.inl rfl) ?_
          conv => whnf
          exact ⟨[], [], rfl, congrArg AV.bool (decide_eq_true hpe.symm), rfl⟩
      · have tb : ∀ j, j ≤ q.length → Mir (bitAt (encL 8 q).all) (encL 8 (q.take j)) (decL ((x :: xs) ++ List.replicate (n + 1) 0) 8 (q.take j)) ∧ ∀ h : j < q.length, (decL ((x :: xs) ++ List.replicate (n + 1) 0) 8 (q.take j)).told q[j].1 = q[j].2 := toldz (n + 1)
        have hkz : okB ((x :: xs) ++ List.replicate (n + 1) 0) := okB_zeros hkb (n + 1)
        have hbz : (((x :: xs) ++ List.replicate (n + 1) 0) : List Int).length < 4294967290 := by first | (simp; done) | (simp at hbl ⊢; omega)
        conv => whnf
        refine CallsF.call [0, 1, 2, 3] [] (by0) rfl rfl rfl rfl rfl (.inl rfl) ?_
        conv => whnf
        refine CallsF.call [] [] (newD_spec hcl hkb (by omega) 8) rfl rfl rfl rfl rfl (.inl rfl) ?_
        conv => whnf
        refine CallsF.call [0, 1, 2, 3] [] (byo) rfl rfl rfl rfl rfl (.inl rfl) ?_
        conv => whnf
        refine need_of ((decide_eq_true ⟨by omega, by simp, by simp at hbl ⊢; omega⟩)) ?_
        conv => whnf
        refine CallsA.frz [9] ?_
        conv => whnf
        refine CallsF.call [] [] (newD_spec (v := _) ?_ hkz hbz 8) rfl rfl rfl rfl rfl (.inl rfl) ?_
        · exact asB_ri (by first | (simp; done) | (simp; exact List.take_of_length_le (by simp; omega))) (by simp)
        conv => whnf
        refine CallsF.call [] [] (newD_spec (v := .snil) (.inl ⟨rfl, rfl⟩) (fun x hx => by cases hx) (by simp) 8) rfl rfl rfl rfl rfl (.inl rfl) ?_
        conv => whnf
        refine LoopA.inv (fun k st => ∃ j : Nat, j + k = q.length ∧ st = ⟨[(9, .bp 0 0), (10, .bp 3 0), (11, .bp 6 0), (48, .ro 2 (((q.map rowT).drop 0).take q.length)), (49, iv q.length), (50, iv j)], hQ 0 (decL (x :: xs) 8 (q.take j)) ++ hQ 3 (decL ((x :: xs) ++ List.replicate (n + 1) 0) 8 (q.take j)) ++ hQ 6 (decL [] 8 (q.take j)), 9, 0⟩) q.length [9, 10, 11, 48, 49, 50] [5, 6, 7, 10, 11, 12, 13, 14, 15] [4] (by rfl) ?_ ?_
        · conv => whnf
          exact ⟨0, by omega, rfl⟩
        rintro k2 st ⟨j, hj, rfl⟩
        conv => whnf
        refine ifB_of (fun hd2 => ?_) (fun hd2 => ?_)
        · have hd2 : j < q.length := by have := of_decide_eq_true hd2; omega
          have hrq : nth (((q.map rowT).drop 0).take q.length) ((j : Nat) : Int).toNat = some (rowT q[j]) := by
            rw [List.drop_zero, List.take_of_length_le (by simp), Int.toNat_natCast, nth_get, List.getElem?_map, List.getElem?_eq_getElem hd2]; rfl
          have hD := decL_ok hkb (by omega) 8 (q.take j) (by simp; omega)
          have hZ := decL_ok hkz hbz 8 (q.take j) (by simp; omega)
          have hN := decL_ok (bs := []) (fun x hx => by cases hx) (by simp) 8 (q.take j) (by simp; omega)
          have sp := dget_spec (decL (x :: xs) 8 (q.take j)) hD.1 q[j].1
          rw [(told j (by omega)).2 hd2, ← decL_snoc, ← List.take_succ_eq_append_getElem hd2] at sp
          have sz := dget_spec (decL ((x :: xs) ++ List.replicate (n + 1) 0) 8 (q.take j)) hZ.1 q[j].1
          rw [(tb j (by omega)).2 hd2, ← decL_snoc, ← List.take_succ_eq_append_getElem hd2] at sz
          have sn := dget_spec (decL [] 8 (q.take j)) hN.1 q[j].1
          rw [(nought_get (nought_all 8 (q.take j) (by simp; omega)) hN.1 q[j].1).1, ← decL_snoc, ← List.take_succ_eq_append_getElem hd2] at sn
          conv => whnf
          rw [aop_idxS_ro hrq rfl rfl]
          conv => whnf
          refine CallsF.call [0, 1, 2] [] (sp) rfl rfl rfl rfl rfl (.inl rfl) ?_
          conv => whnf
          refine ⟨.inr (by repeat (first | exact same_nil | refine same_of rfl ?_)), ?_⟩
          conv => whnf
          rw [show (q[j].2 == q[j].2) = true from beq_self_eq_true _]
          conv => whnf
          refine CallsF.call [3, 4, 5] [] (sz) rfl rfl rfl rfl rfl (.inl rfl) ?_
          conv => whnf
          refine ⟨.inr (by repeat (first | exact same_nil | refine same_of rfl ?_)), ?_⟩
          conv => whnf
          rw [show (q[j].2 == q[j].2) = true from beq_self_eq_true _]
          conv => whnf
          refine CallsF.call [6, 7, 8] [] (sn) rfl rfl rfl rfl rfl (.inl rfl) ?_
          conv => whnf
          rw [inc_natT (by omega)]
          refine ⟨(q.length - (j + 1)), [9, 10, 11, 48, 49, 50], [0, 1, 2, 3, 4, 5, 6, 7, 8], [], by omega, rfl, ?_⟩
          conv => whnf
          exact ⟨j + 1, by omega, rfl⟩
        · have hd2 := of_decide_eq_false hd2
          obtain rfl : j = q.length := by omega
          have M := (told q.length (by omega)).1
          have Mz := (tb q.length (by omega)).1
          have hD := decL_ok hkb (by omega) 8 (q.take q.length) (by simp; omega)
          have hpe : (decL ((x :: xs) ++ List.replicate (n + 1) 0) 8 (q.take q.length)).p = (decL (x :: xs) 8 (q.take q.length)).p := Mz.p.trans M.p.symm
          have hne : (decL (x :: xs) 8 (q.take q.length)).p ≠ [] := fun h => by have hpl := hD.2.1; have := ctxN_in 8; rw [h] at hpl; simp only [List.length_nil] at hpl; omega
          have hpl : (decL (x :: xs) 8 (q.take q.length)).p.length < 4294967296 := by rw [hD.2.1]; have := ctxN_in 8; omega
          conv => whnf
          refine CallsF.call [0, 1, 2] [] (chances2_spec _ _ _ _ _ _ _ _ hne hpl) rfl rfl rfl rfl rfl (.inl rfl) ?_
          conv => whnf
          refine CallsF.call [3, 4, 5] [] (chances2_spec _ _ _ _ _ _ _ _ (by rw [hpe]; exact hne) (by rw [hpe]; exact hpl)) rfl rfl rfl rfl rfl (.inl rfl) ?_
          conv => whnf
          refine CallsF.call [] [] (same_spec _ _ hpl) rfl rfl rfl rfl rfl (.inl rfl) ?_
          conv => whnf
          exact ⟨[], [], rfl, congrArg AV.bool (decide_eq_true hpe.symm), rfl⟩

end Go.Proofs.TrydN

