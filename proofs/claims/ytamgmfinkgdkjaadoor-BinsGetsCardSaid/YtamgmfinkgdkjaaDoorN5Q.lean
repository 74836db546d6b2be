/- Layer 5: what must be answered ahead of everything else: forty bits. -/
import Derived.Test.YtamgmfinkgdkjaaDoorN5P
namespace Go.Proofs.TrydN
open Go Go.AL Go.Proofs

def opF (i : Nat) : Int × Bool := (((i : Nat) : Int).tmod 2, ((i : Nat) : Int).tmod 3 == 0)
def opsF (n : Nat) : List (Int × Bool) := (List.range n).map opF
def eF (i : Nat) : Enc := encL 2 (opsF i)
theorem opsF_succ (i : Nat) : opsF (i + 1) = opsF i ++ [opF i] := by simp [opsF, List.range_succ]
theorem opsF_len (i : Nat) : (opsF i).length = i := by simp [opsF]
theorem opsF_take {i n : Nat} (h : i ≤ n) : (opsF n).take i = opsF i := by unfold opsF; rw [← List.map_take, List.take_range, Nat.min_eq_left h]
theorem opsF_get {i n : Nat} (h : i < (opsF n).length) : (opsF n)[i] = opF i := by simp [opsF]
theorem eF_succ (i : Nat) : eF (i + 1) = (eF i).put (opF i).1 (opF i).2 := by rw [eF, opsF_succ, encL_snoc]; rfl
theorem eF_ok {i : Nat} (h : i ≤ 40) : okE (eF i) := (encL_ok 2 (opsF i) (by rw [opsF_len]; omega)).1
theorem hasF (i : Nat) : hasN 2 (opF i).1 = true := by
  have : ((i : Nat) : Int).tmod 2 = ((i % 2 : Nat) : Int) := rfl
  unfold hasN opF
  rw [this]
  have h2 : ctxN 2 = 2 := rfl
  rw [h2]
  simp
  omega
theorem eF_bytes : (Enc.new 2).bytes = [] ∧ (eF 40).bits ≠ [] ∧ 3 < (eF 40).bytes.length := by decide +kernel

theorem shift_bits {e : Enc} (h : e.bits ≠ []) : e.shift.bits ≠ [] := by
  cases hs : strad e.low e.size
  · rw [shift_f hs]; simp [h]
  · rw [shift_t hs]; exact h
theorem norm_bits : ∀ (k : Nat) {e : Enc}, e.bits ≠ [] → (e.norm k).bits ≠ []
  | 0, e, h => h
  | k + 1, e, h => by
    by_cases hs : e.size ≤ 16384
    · rw [norm_step hs]; exact norm_bits k (shift_bits h)
    · rw [norm_done hs]; exact h
theorem put_bits {e : Enc} (h : e.bits ≠ []) (c : Int) (b : Bool) : (e.put c b).bits ≠ [] := by
  unfold Enc.put
  cases hasC e.p c
  · exact h
  · exact norm_bits 16 (e := e.take c b) h

theorem bytesV_le (xs : List Int) : (bytesV xs).le (.ri .u8 xs) := by
  cases xs with
  | nil => exact AV.le.semp .u8
  | cons x r => exact AV.le.refl _
theorem bytes1R_spec (e : Enc) (hb0 : e.bits ≠ []) (h : okE e) : CallsF Tryd.prog 16 [.bp 0 0] (hE1 e) (.ri .u8 e.bytes) (hE1 e) :=
  CallsF.le (CallsA.mono (bytes1_spec e hb0 h) fun _ _ ⟨a, b⟩ => ⟨by rw [a]; exact bytesV_le _, b⟩)
theorem bytes0R_spec (e : Enc) (hb0 : e.bits = []) (h : okE e) : CallsF Tryd.prog 16 [.bp 0 0] (hE0 e) (.ri .u8 e.bytes) (hE0 e) :=
  CallsF.le (CallsA.mono (bytes0_spec e hb0 h) fun _ _ ⟨a, b⟩ => ⟨by rw [a]; exact bytesV_le _, b⟩)

/-- A decoder's cells, where its blocks begin at k. -/
abbrev dB (k : Nat) (d : Dec) : Option ABlk := some (.box [.sl (k + 1) 0 d.p.length, iv d.n, iv d.low, iv d.size, iv d.code, .bp (k + 2) 0])

set_option maxRecDepth 10000 in
theorem first5_spec : CallsF Tryd.prog 11 [] [] (.bool true) [] := by
  obtain ⟨f1, f2, f3⟩ := eF_bytes
  have b0 := bytes0_spec (Enc.new 2) rfl (newE_ok 2)
  rw [f1] at b0
  refine e11 ?_
  conv => whnf
  refine CallsF.call [] [] (newE_spec 2) rfl rfl rfl rfl rfl (.inl rfl) ?_
  conv => whnf
  refine CallsF.call [0, 1, 2] [] (b0) rfl rfl rfl rfl rfl (.inl rfl) ?_
  conv => whnf
  refine LoopA.inv (fun k st => ∃ i : Nat, i + k = 40 ∧ (((eF i).bits = [] ∧ st = ⟨[(1, .bp 0 0), (14, iv i)], hE0 (eF i), 3, 0⟩) ∨ ((eF i).bits ≠ [] ∧ st = ⟨[(1, .bp 0 0), (14, iv i)], hE1 (eF i), 4, 0⟩))) 40 [1, 14] [0, 1, 2] [] (by rfl) ?_ ?_
  · conv => whnf
    exact ⟨0, by omega, .inl ⟨rfl, rfl⟩⟩
  rintro k st ⟨i, hi, ⟨hb, rfl⟩ | ⟨hb, rfl⟩⟩
  · conv => whnf
    refine ifB_of (fun hd => ?_) (fun hd => ?_)
    · have hd : i < 40 := by have := of_decide_eq_true hd; omega
      have sp := put0_spec (eF i) hb (eF_ok (by omega)) (opF i).1 (opF i).2
      rw [← eF_succ] at sp
      conv => whnf
      by_cases hb2 : (eF (i + 1)).bits = []
      · rw [hP0_nil hb2] at sp
        refine CallsF.call [0, 1, 2] [] (sp) rfl rfl rfl rfl rfl (.inl rfl) ?_
        conv => whnf
        rw [inc_nat (by omega)]
        refine ⟨(40 - (i + 1)), [1, 14], [0, 1, 2], [], by omega, rfl, ?_⟩
        conv => whnf
        exact ⟨i + 1, by omega, .inl ⟨hb2, rfl⟩⟩
      · rw [hP0_app hb2] at sp
        refine CallsF.call [0, 1, 2] [] (sp) rfl rfl rfl rfl rfl (.inl rfl) ?_
        conv => whnf
        rw [inc_nat (by omega)]
        refine ⟨(40 - (i + 1)), [1, 14], [0, 1, 2, 3], [], by omega, rfl, ?_⟩
        conv => whnf
        exact ⟨i + 1, by omega, .inr ⟨hb2, rfl⟩⟩
    · have hd := of_decide_eq_false hd
      obtain rfl : i = 40 := by omega
      exact absurd hb f2
  · conv => whnf
    refine ifB_of (fun hd => ?_) (fun hd => ?_)
    · have hd : i < 40 := by have := of_decide_eq_true hd; omega
      have sp := put1_spec (eF i) (eF_ok (by omega)) (opF i).1 (opF i).2
      rw [← eF_succ] at sp
      conv => whnf
      have hb2 : (eF (i + 1)).bits ≠ [] := by rw [eF_succ]; exact put_bits hb _ _
      refine CallsF.call [0, 1, 2, 3] [] (sp) rfl rfl rfl rfl rfl (.inl rfl) ?_
      conv => whnf
      rw [inc_nat (by omega)]
      refine ⟨(40 - (i + 1)), [1, 14], [0, 1, 2, 4], [], by omega, rfl, ?_⟩
      conv => whnf
      exact ⟨i + 1, by omega, .inr ⟨hb2, rfl⟩⟩
    · have hd := of_decide_eq_false hd
      obtain rfl : i = 40 := by omega
      have hok := eF_ok (i := 40) (by omega)
      have hlen := encL_ok 2 (opsF 40) (by rw [opsF_len]; omega)
      have hn := encL_n 2 (opsF 40) (by rw [opsF_len]; omega) (fun x hx => by
        unfold opsF at hx
        rw [List.mem_map] at hx
        obtain ⟨j, _, rfl⟩ := hx
        exact hasF j)
      rw [opsF_len] at hn
      have told := told_all (bs := (eF 40).bytes) (fun i => rd_trim (eF 40).all i) (c := 2) (q := opsF 40) (by rw [opsF_len]; omega) (fun x hx => by
        unfold opsF at hx
        rw [List.mem_map] at hx
        obtain ⟨j, _, rfl⟩ := hx
        exact hasF j) (fits_all hok)
      have hbl : (eF 40).bytes.length < 4294967290 := by
        have h1 := trim_len (pack (eF 40).all)
        have h2 := hok.len
        have h3 := hok.n
        rw [pack_len, all_len] at h1
        unfold Enc.m at h1
        show (trim (pack (eF 40).all)).length < _
        omega
      have hkb : okB (eF 40).bytes := okB_trim (okB_pack _)
      have hdk : ∀ i, i ≤ 40 → okD (decL (eF 40).bytes 2 (opsF i)) ∧ (decL (eF 40).bytes 2 (opsF i)).n = i := fun i hi => by
        have := decL_ok hkb hbl 2 (opsF i) (by rw [opsF_len]; omega)
        refine ⟨this.1, ?_⟩
        rw [this.2.2.2 (fun x hx => by
          unfold opsF at hx
          rw [List.mem_map] at hx
          obtain ⟨j, _, rfl⟩ := hx
          exact hasF j), opsF_len]
      have by1 := bytes1_spec (eF 40) f2 hok
      generalize hE : eF 40 = E at *
      have hcl := asB_bytes E.bytes
      conv => whnf
      refine CallsF.callV [0, 1, 2, 3] [] (by1) hcl.cl rfl rfl rfl rfl rfl (.inl rfl) ?_
      conv => whnf
      refine CallsF.call [] [] (newD_spec hcl hkb hbl 2) ?_ rfl rfl rfl rfl (.inl rfl) ?_
      · exact mapO_one hcl.cl rfl
      conv => whnf
      refine LoopA.inv (fun k st => ∃ i : Nat, i + k = 40 ∧ st = ⟨[(1, .bp 0 0), (3, .bp 4 0), (30, iv i)], [cB E.p E.n E.low E.size E.owed, pD E.p, wB E.bits 3, wD E.bits, dB 4 (decL E.bytes 2 (opsF i)), pD (decL E.bytes 2 (opsF i)).p, rB (decL E.bytes 2 (opsF i)).src (decL E.bytes 2 (opsF i)).pos (decL E.bytes 2 (opsF i)).over], 7, 0⟩) 40 [1, 3, 30] [0, 1, 2, 3, 4, 5, 6] [] (by rfl) ?_ ?_
      · conv => whnf
        exact ⟨0, by omega, rfl⟩
      rintro k st ⟨i, hi2, rfl⟩
      conv => whnf
      refine ifB_of (fun hd2 => ?_) (fun hd2 => ?_)
      · have hd2 : i < 40 := by have := of_decide_eq_true hd2; omega
        have tl := (told i (by rw [opsF_len]; omega)).2 (by rw [opsF_len]; omega)
        rw [opsF_take (by omega), opsF_get] at tl
        have sp := dget_spec (decL E.bytes 2 (opsF i)) (hdk i (by omega)).1 (opF i).1
        rw [tl, show (decL E.bytes 2 (opsF i)).get (opF i).1 = decL E.bytes 2 (opsF (i + 1)) by rw [opsF_succ, decL_snoc]] at sp
        conv => whnf
        refine CallsF.call [4, 5, 6] [] (sp) rfl rfl rfl rfl rfl (.inl rfl) ?_
        conv => whnf
        rw [show ((opF i).2 == (((i : Nat) : Int).tmod 3 == 0)) = true from beq_self_eq_true _]
        conv => whnf
        rw [inc_nat (by omega)]
        refine ⟨(40 - (i + 1)), [1, 3, 30], [0, 1, 2, 3, 4, 5, 6], [], by omega, rfl, ?_⟩
        conv => whnf
        exact ⟨i + 1, by omega, rfl⟩
      · have hd2 := of_decide_eq_false hd2
        obtain rfl : i = 40 := by omega
        have M := (told 40 (by rw [opsF_len]; omega)).1
        rw [opsF_take (Nat.le_refl _)] at M
        have hD := hdk 40 (by omega)
        have hE2 : encL 2 (opsF 40) = E := hE
        rw [hE2] at M hlen hn
        generalize decL E.bytes 2 (opsF 40) = D at *
        have hput : E.put 2 true = E := by unfold Enc.put; rw [hasC_N hlen.2.1, show hasN 2 2 = false from rfl]
        have pe := put1_spec E hok 2 true
        rw [hput, hasC_N hlen.2.1, show hasN 2 2 = false from rfl] at pe
        conv => whnf
        refine CallsF.call [0, 1, 2, 3] [] (pe) rfl rfl rfl rfl rfl (.inl rfl) ?_
        conv => whnf
        have hpl : E.p.length = 2 := hlen.2.1
        have hne : E.p ≠ [] := fun h => by rw [h] at hpl; cases hpl
        have hdne : D.p ≠ [] := by rw [M.p]; exact hne
        have hdl : D.p.length = 2 := by rw [M.p]; exact hpl
        refine CallsF.call [0, 1, 2, 7] [] (count1_spec E.p E.n E.low E.size E.owed E.bits) rfl rfl rfl rfl rfl (.inl rfl) ?_
        conv => whnf
        rw [show ((E.n : Int) == 40) = true by rw [hn]; rfl]
        conv => whnf
        refine CallsF.call [4, 5, 6] [] (count2_spec D.p D.n D.low D.size D.code D.src D.pos D.over) rfl rfl rfl rfl rfl (.inl rfl) ?_
        conv => whnf
        rw [show ((D.n : Int) == 40) = true by rw [hD.2]; rfl]
        conv => whnf
        refine CallsF.call [4, 5, 6] [] (chances2_spec D.p D.n D.low D.size D.code D.src D.pos D.over hdne (by omega)) rfl rfl rfl rfl rfl (.inl rfl) ?_
        conv => whnf
        refine CallsF.call [0, 1, 2, 7] [] (chances1_spec E.p E.n E.low E.size E.owed E.bits hne (by omega)) rfl rfl rfl rfl rfl (.inl rfl) ?_
        conv => whnf
        refine CallsF.call [] [] (same_spec D.p E.p (by omega)) rfl rfl rfl rfl rfl (.inl rfl) ?_
        conv => whnf
        rw [decide_eq_true M.p]
        conv => whnf
        refine CallsF.call [0, 1, 2, 7] [] (bytes1R_spec E f2 hok) rfl rfl rfl rfl rfl (.inl rfl) ?_
        conv => whnf
        rw [show decide ((E.bytes.length : Int) > 3) = true from decide_eq_true (by omega)]
        exact ⟨[], [], rfl, rfl, rfl⟩

end Go.Proofs.TrydN

