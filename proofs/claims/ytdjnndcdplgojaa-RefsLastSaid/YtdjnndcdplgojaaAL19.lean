/- Monotony, loops that are unrolled, arguments seen more weakly. Seat-independent. -/
import Derived.Test.YtdjnndcdplgojaaAL16
namespace Go.AL
variable {P : Program}

theorem CallsA.mono {f : FuncId} {args : List AV} {h : AHeap} {R R' : AV → AHeap → Prop} (hc : CallsA P f args h R) (hR : ∀ r h', R r h' → R' r h') : CallsA P f args h R' := by
  refine fun E cs H hT hl ha => (hc E cs H hT hl ha).mono ?_
  rintro e w' ⟨v, r, h', E', h1, h2, h3⟩
  exact ⟨v, r, h', E', h1, hR _ _ h2, h3⟩

theorem stepA_mono {op : AOp} {dst : Option Nat} {tm : List (Nat × AV)} {hp : AHeap} {hn n0 : Nat} {K K' : St → Prop} (hK : ∀ st, K st → K' st)
    (h : stepA P op dst tm hp hn n0 K) : stepA P op dst tm hp hn n0 K' := by
  have quiet : (match aop tm hp hn op with
      | some (c, v, e) => need c (f2 v fun v => e.go hp hn fun hp hn => putK dst v tm fun tm => K ⟨tm, hp, hn, n0⟩)
      | none => False) → (match aop tm hp hn op with
      | some (c, v, e) => need c (f2 v fun v => e.go hp hn fun hp hn => putK dst v tm fun tm => K' ⟨tm, hp, hn, n0⟩)
      | none => False) := by
    intro hq
    split at hq <;> try (exact hq.elim)
    rw [need_iff, f2_iff, Eff.go_iff, putK_iff] at hq ⊢
    exact ⟨hq.1, hK _ hq.2⟩
  cases op with
  | call f args => exact CallsA.mono h fun r h' hr => by rw [putK_iff] at hr ⊢; exact hK _ hr
  | callv f args =>
    simp only [stepA] at h ⊢
    split at h <;> try (exact h.elim)
    · exact CallsA.mono h fun r h' hr => by rw [putK_iff] at hr ⊢; exact hK _ hr
    · unfold yieldA at h ⊢
      split at h <;> try (exact h.elim)
      simp only [putK_iff] at h ⊢
      exact ⟨h.1, hK _ h.2.1, hK _ h.2.2⟩
  | _ => exact quiet h

theorem stepAD_mono {po : Bool} {rs : List (Nat × AOp)} {op : AOp} {dst : Option Nat} {tm : List (Nat × AV)} {hp : AHeap} {hn n0 : Nat} {K K' : St → Prop} (hK : ∀ st, K st → K' st)
    (h : stepAD P po rs op dst tm hp hn n0 K) : stepAD P po rs op dst tm hp hn n0 K' :=
  stepAD_frame (fun _ _ => rfl) rfl (fun _ h => h) (fun _ _ _ _ _ _ h => hK _ h) h

theorem ifB_mono {b : Bool} {A A' B B' : Prop} (h1 : A → A') (h2 : B → B') (h : ifB b A B) : ifB b A' B' := by
  cases b
  · exact h2 h
  · exact h1 h

theorem stepG_mono {o : AOper} {st : St} {K K' : St → Prop} (hK : ∀ st, K st → K' st) (h : stepG P o st K) : stepG P o st K' := by
  obtain ⟨tm, hp, hn, n0⟩ := st
  obtain ⟨dst, op, guard, po⟩ := o
  cases guard with
  | none => exact stepA_mono hK h
  | some gw =>
    obtain ⟨g, want⟩ := gw
    simp only [stepG] at h ⊢
    split at h <;> try (exact h.elim)
    · cases want
      · exact ifB_mono (fun h => by rw [putK_iff] at h ⊢; exact hK _ h) (stepA_mono hK) h
      · exact ifB_mono (stepA_mono hK) (fun h => by rw [putK_iff] at h ⊢; exact hK _ h) h
    · rw [putK_iff] at h ⊢; exact hK _ h

theorem wpOps_mono : ∀ (l : List AOper) {st : St} {K K' : St → Prop}, (∀ st, K st → K' st) → wpOps P l st K → wpOps P l st K'
  | [], _, _, _, hK, h => hK _ h
  | _ :: l, _, _, _, hK, h => stepG_mono (fun _ h => wpOps_mono l hK h) h

theorem LoopA.mono {body : (AExit → St → Prop) → St → Prop} (hb : ∀ (Q Q' : AExit → St → Prop) st, (∀ e st, Q e st → Q' e st) → body Q st → body Q' st) {Q Q' : AExit → St → Prop} {st : St}
    (hQ : ∀ e st, Q e st → Q' e st) (h : LoopA body Q st) : LoopA body Q' st := by
  obtain ⟨I, h0, h1⟩ := h
  refine ⟨I, h0, fun n st hI => hb _ _ _ ?_ (h1 n st hI)⟩
  intro e st h
  cases e with
  | normal => exact h
  | exit id => exact hQ _ _ h
  | ret => exact hQ _ _ h

theorem wpA_mono : ∀ (c : ACode) {Q Q' : AExit → St → Prop} {st : St}, (∀ e st, Q e st → Q' e st) → wpA P c Q st → wpA P c Q' st
  | .skip, _, _, _, hQ, h => hQ _ _ h
  | .region l, _, _, _, hQ, h => wpOps_mono l (fun _ h => hQ _ _ h) h
  | .draw l, _, _, _, hQ, h => wpD_mono (fun _ h => hQ _ _ h) l _ h
  | .seq a b, _, _, _, hQ, h => wpA_mono a (fun e st h => by
      cases e with
      | normal => exact wpA_mono b hQ h
      | exit id => exact hQ _ _ h
      | ret => exact hQ _ _ h) h
  | .cond c a b, _, _, st, hQ, h => by
      simp only [wpA] at h ⊢
      cases hc : ev st.tm c <;> rw [hc] at h <;> try (exact h.elim)
      exact ifB_mono (wpA_mono a hQ) (wpA_mono b hQ) h
  | .block id c, _, _, _, hQ, h => wpA_mono c (fun e st h => by
      cases e with
      | normal => exact hQ _ _ h
      | exit id' =>
        simp only at h ⊢
        split at h <;> exact hQ _ _ h
      | ret => exact hQ _ _ h) h
  | .loop c, _, _, _, hQ, h => LoopA.mono (body := wpA P c) (fun _ _ _ hQ h => wpA_mono c hQ h) hQ h
  | .exit _, _, _, _, hQ, h => hQ _ _ h
  | .ret, _, _, _, hQ, h => hQ _ _ h
  | .pt, _, _, _, hQ, h => by
      simp only [wpA] at h ⊢
      unfold PtW at h ⊢
      obtain ⟨live, keep, fz, st', h1, h2, h3⟩ := h
      exact ⟨live, keep, fz, st', h1, h2, hQ _ _ h3⟩
  | .both a b, _, _, _, hQ, h => ⟨wpA_mono a hQ h.1, wpA_mono b hQ h.2⟩
  | .rangef g ps a b, _, _, st, hQ, h => by
      simp only [wpA] at h ⊢
      obtain ⟨live, keep, fz, h1, h2, h3⟩ := h
      refine ⟨live, keep, fz, h1, h2, ?_⟩
      split at h3 <;> try (exact h3.elim)
      rcases h3 with ⟨h4, xs, h5, h6, I, h7, h8, h9⟩ | ⟨own, xs, cap', hi, hi', j1, j2, j3, j4, j5, h6, I, h7, h8, h9⟩
      · refine .inl ⟨h4, xs, h5, h6, I, h7, fun k x hp hx hI => wpA_mono a (fun e st h => ?_) (h8 k x hp hx hI), fun hp h => hQ _ _ (h9 hp h)⟩
        cases e with
        | normal =>
          refine wpA_mono b (fun e st h => ?_) h
          cases e with
          | normal => exact h
          | exit id => obtain ⟨k1, k2, k3, k4⟩ := h; exact ⟨k1, k2, k3, hQ _ _ k4⟩
          | ret => obtain ⟨k1, k2, k3, k4⟩ := h; exact ⟨k1, k2, k3, hQ _ _ k4⟩
        | exit id => exact h
        | ret => exact h
      · refine .inr ⟨own, xs, cap', hi, hi', j1, j2, j3, j4, j5, h6, I, h7, fun k x hp hx hI => wpA_mono a (fun e st h => ?_) (h8 k x hp hx hI), fun hp h => ⟨(h9 hp h).1, hQ _ _ (h9 hp h).2⟩⟩
        cases e with
        | normal =>
          refine wpA_mono b (fun e st h => ?_) h
          cases e with
          | normal => exact h
          | exit id => obtain ⟨k1, k2, k3, k4⟩ := h; exact ⟨k1, k2, k3, hQ _ _ k4⟩
          | ret => obtain ⟨k1, k2, k3, k4⟩ := h; exact ⟨k1, k2, k3, hQ _ _ k4⟩
        | exit id => exact h
        | ret => exact h

/-! A state is reckoned before it is passed on. -/

def fN (n : Nat) (K : Nat → Prop) : Prop :=
  match n with
  | 0 => K 0
  | m + 1 => K (m + 1)

def fLg {α β : Type} (f : α → (β → Prop) → Prop) : List α → (List β → Prop) → Prop
  | [], K => K []
  | x :: xs, K => f x fun y => fLg f xs fun ys => K (y :: ys)

def f0n (x : AV) (K : AV → Prop) : Prop := f0 x fun x =>
  match x with
  | .bp b j => fN b fun b => K (.bp b j)
  | .ep b i j => fN b fun b => K (.ep b i j)
  | .sl b i n => fN b fun b => K (.sl b i n)
  | .map b => fN b fun b => K (.map b)
  | x => K x

def f1n (x : AV) (K : AV → Prop) : Prop :=
  match x with
  | .agg cs => fLg f0n cs fun cs => K (.agg cs)
  | .fn f cs => fLg f0n cs fun cs => K (.fn f cs)
  | x => f0n x K

def f2n (x : AV) (K : AV → Prop) : Prop :=
  match x with
  | .tup cs => fLg f1n cs fun cs => K (.tup cs)
  | x => f1n x K

def fBn (b : Option ABlk) (K : Option ABlk → Prop) : Prop :=
  match b with
  | some b => match b with
    | .box cs => fLg f1n cs fun cs => K (some (.box cs))
    | .ia k xs => K (some (.ia k xs))
    | .arr s rows => K (some (.arr s rows))
    | .mp es => K (some (.mp es))
  | none => K none

theorem fN_iff (n : Nat) (K : Nat → Prop) : fN n K ↔ K n := by cases n <;> exact Iff.rfl
theorem fLg_iff {α β : Type} {f : α → (β → Prop) → Prop} {g : α → β} (hf : ∀ x K, f x K ↔ K (g x)) : ∀ (l : List α) (K : List β → Prop), fLg f l K ↔ K (l.map g)
  | [], _ => Iff.rfl
  | x :: xs, K => by rw [fLg, hf]; exact fLg_iff hf xs fun ys => K (g x :: ys)
theorem f0n_iff (x : AV) (K : AV → Prop) : f0n x K ↔ K x := by
  rw [f0n, f0_iff]; cases x <;> first | exact Iff.rfl | exact fN_iff _ _
theorem f1n_iff (x : AV) (K : AV → Prop) : f1n x K ↔ K x := by
  cases x <;> simp only [f1n] <;> first | exact f0n_iff _ _ | (rw [fLg_iff (g := id) f0n_iff, List.map_id])
theorem f2n_iff (x : AV) (K : AV → Prop) : f2n x K ↔ K x := by
  cases x <;> simp only [f2n] <;> first | exact f1n_iff _ _ | (rw [fLg_iff (g := id) f1n_iff, List.map_id])
theorem fBn_iff (b : Option ABlk) (K : Option ABlk → Prop) : fBn b K ↔ K b := by
  cases b with
  | none => exact Iff.rfl
  | some b => cases b <;> first | exact Iff.rfl | (rw [fBn, fLg_iff (g := id) f1n_iff, List.map_id])

def St.fnorm (live keep fz : List Nat) (st : St) (K : St → Prop) : Prop :=
  match st with
  | ⟨tm, hp, _, n0⟩ => fN n0 fun n0 => fLg (fun t K => f2n (ren2 (newNo n0 keep) (fzOf (fzAll hp fz [])) (look tm t)) fun v => K (t, v)) live fun tm =>
    fLg fBn (gcH n0 keep fz hp) fun hp => fN (n0 + keep.length) fun hn => K ⟨tm, hp, hn, n0⟩

theorem St.fnorm_iff (live keep fz : List Nat) (st : St) (K : St → Prop) : st.fnorm live keep fz K ↔ K (st.norm live keep fz) := by
  obtain ⟨tm, hp, hn, n0⟩ := st
  rw [St.fnorm, fN_iff, fLg_iff (g := fun t => (t, ren2 (newNo n0 keep) (fzOf (fzAll hp fz [])) (look tm t))) (fun x K => f2n_iff _ _), fLg_iff (g := id) fBn_iff, fN_iff, List.map_id]
  rfl

/-- A loop, round by round. -/
theorem pt_of {K : St → Prop} {st : St} (live keep fz : List Nat) (hok : okKeep st.n0 st.hn (keep ++ fz) = true) (h : st.fnorm live keep fz K) : PtK K st := by
  unfold PtK
  exact ⟨live, keep, fz, hok, (St.fnorm_iff ..).1 h⟩

theorem ptw_of {K : St → Prop} {st : St} (live keep fz : List Nat) (hok : okKeep st.n0 st.hn (keep ++ fz) = true) (h : st.fnorm live keep fz K) : PtW K st := by
  unfold PtW
  exact ⟨live, keep, fz, _, hok, St.le.refl _, (St.fnorm_iff ..).1 h⟩

/-- At a point the state may be seen as another. -/
theorem ptw_le {K : St → Prop} {st : St} (live keep fz : List Nat) (st' : St) (hok : okKeep st.n0 st.hn (keep ++ fz) = true) (hle : (st.norm live keep fz).le st') (h : K st') : PtW K st := by
  unfold PtW
  exact ⟨live, keep, fz, st', hok, hle, h⟩

def LoopU (body : (AExit → St → Prop) → St → Prop) (Q : AExit → St → Prop) (live keep fz : List Nat) : Nat → St → Prop
  | 0, _ => False
  | n + 1, st => body (fun e st' => match e with
      | .normal => okKeep st'.n0 st'.hn (keep ++ fz) = true ∧ st'.fnorm live keep fz (LoopU body Q live keep fz n)
      | e => Q e st') st

theorem LoopA.unroll {c : ACode} {Q : AExit → St → Prop} {st : St} (n : Nat) (live keep0 fz0 keep fz : List Nat) (hok : okKeep st.n0 st.hn (keep0 ++ fz0) = true) (h : st.fnorm live keep0 fz0 (LoopU (wpA P c) Q live keep fz n)) : LoopA (wpA P c) Q st := by
  refine ⟨LoopU (wpA P c) Q live keep fz, ⟨n, live, keep0, fz0, hok, (St.fnorm_iff ..).1 h⟩, fun n st h => ?_⟩
  cases n with
  | zero => exact h.elim
  | succ n =>
    refine wpA_mono c ?_ h
    intro e st h
    cases e with
    | normal => exact ⟨n, live, keep, fz, Nat.lt_succ_self _, h.1, (St.fnorm_iff ..).1 h.2⟩
    | exit id => exact h
    | ret => exact h

/-- A loop by what holds at its head. -/
theorem LoopA.inv {c : ACode} {Q : AExit → St → Prop} {st : St} (I : Nat → St → Prop) (n : Nat) (live keep fz : List Nat) (hok : okKeep st.n0 st.hn (keep ++ fz) = true) (h0 : st.fnorm live keep fz (I n))
    (hs : ∀ n st, I n st → wpA P c (fun e st' => match e with
      | .normal => ∃ m live keep fz, m < n ∧ okKeep st'.n0 st'.hn (keep ++ fz) = true ∧ st'.fnorm live keep fz (I m)
      | e => Q e st') st) : LoopA (wpA P c) Q st := by
  refine ⟨I, ⟨n, live, keep, fz, hok, (St.fnorm_iff ..).1 h0⟩, fun n st hI => wpA_mono c ?_ (hs n st hI)⟩
  intro e st h
  cases e with
  | normal => obtain ⟨m, l, k, f, h1, h2, h3⟩ := h; exact ⟨m, l, k, f, h1, h2, (St.fnorm_iff ..).1 h3⟩
  | exit id => exact h
  | ret => exact h

/-- **A CALL THAT ANSWERS ONE THING.** -/
def CallsF (P : Program) (f : FuncId) (args : List AV) (h : AHeap) (v : AV) (hv : AHeap) : Prop := CallsA P f args h fun r h' => r = v ∧ h' = hv

theorem CallsF.call {f : FuncId} {args args' : List AV} {hp h0 hv : AHeap} {v : AV} {K : AV → AHeap → Prop} (own bor : List Nat) (h : CallsF P f args' h0 v hv) (hargs : mapO (view1 hp own bor) args = some args') (hv0 : viewH hp own own = some h0)
    (hok : okKeep 0 hp.length own = true) (hbl : liveAll hp bor = true) (hap : apartAll own bor = true) (hb : bor = [] ∨ (noF2 v && noFH hv) = true) (hK : f2n (ren2 (back own hp.length) (fun _ => none) v) fun v => fLg fBn (backH own hp hv) fun hp => K v hp) : CallsA P f args hp K :=
  CallsA.call own bor h hok hbl hap hv0 hargs fun r h' ⟨h1, h2⟩ => by
    subst h1 h2
    rw [f2n_iff, fLg_iff (g := id) fBn_iff, List.map_id] at hK
    exact ⟨hb, hK⟩

theorem AV.le.snil (k : IntKind) : AV.snil.le (.ri k []) := by
  intro w F S v h; cases h
  exact .ri _ _ _ _ _ _ rfl (Nat.le_refl _) (fun i x hx => by simp at hx) (fun _ => rfl)
theorem AV.le.semp (k : IntKind) : AV.semp.le (.ri k []) := by
  intro w F S v h; cases h
  exact .ri _ _ _ _ _ _ rfl (Nat.le_refl _) (fun i x hx => by simp at hx) (fun _ => rfl)
theorem AV.le.emp (k : IntKind) : AV.emp.le (.ri k []) := by
  intro w F S v h; cases h
  exact .ri _ _ _ _ _ _ rfl (Nat.zero_le _) (fun i x hx => by simp at hx) (fun h => by cases h)
theorem AV.le.snil_o (s : Nat) : AV.snil.le (.ro s []) := by
  intro w F S v h; cases h
  exact .ro _ _ _ _ _ _ (fun _ _ => .nilFunc) rfl (Nat.le_refl _) (fun i x hx => by simp at hx) (fun i j row x hx => by simp at hx) (fun _ => rfl)
theorem AV.le.semp_o (s : Nat) : AV.semp.le (.ro s []) := by
  intro w F S v h; cases h
  exact .ro _ _ _ _ _ _ (fun _ _ => .nilFunc) rfl (Nat.le_refl _) (fun i x hx => by simp at hx) (fun i j row x hx => by simp at hx) (fun _ => rfl)

inductive LeL : List AV → List AV → Prop
  | nil : LeL [] []
  | cons {x y : AV} {xs ys : List AV} : x.le y → LeL xs ys → LeL (x :: xs) (y :: ys)

theorem LeL.get {xs ys : List AV} (h : LeL xs ys) : xs.length = ys.length ∧ ∀ (i : Nat) x y, xs[i]? = some x → ys[i]? = some y → x.le y := by
  induction h with
  | nil => simp
  | cons h1 h2 ih =>
    refine ⟨by simp [ih.1], fun i x y hx hy => ?_⟩
    cases i with
    | zero => simp at hx hy; subst hx hy; exact h1
    | succ i => exact ih.2 i x y (by simpa using hx) (by simpa using hy)

theorem AV.le.agg {xs ys : List AV} (h : LeL xs ys) : (AV.agg xs).le (.agg ys) := by
  intro w F S v hv
  obtain ⟨h1, h2⟩ := h.get
  cases hv with
  | agg _ _ vs e1 e2 =>
    refine .agg _ _ _ (by omega) fun i c v hc hv => ?_
    have hi : i < xs.length := by have := (List.getElem?_eq_some_iff.1 hc).1; omega
    exact h2 i xs[i] c (List.getElem?_eq_getElem hi) hc _ _ _ _ (e2 i xs[i] v (List.getElem?_eq_getElem hi) hv)

theorem CallsA.weak {f : FuncId} {args args' : List AV} {h : AHeap} {R : AV → AHeap → Prop} (hl : LeL args args') (hc : CallsA P f args' h R) : CallsA P f args h R := by
  obtain ⟨h1, h2⟩ := hl.get
  refine fun E cs H hT hlen ha => hc E cs H hT (by omega) fun i x v hx hv => ?_
  have hi : i < args.length := by have := (List.getElem?_eq_some_iff.1 hx).1; omega
  exact h2 i args[i] x (List.getElem?_eq_getElem hi) hx _ _ _ _ (ha i args[i] v (List.getElem?_eq_getElem hi) hv)

end Go.AL
