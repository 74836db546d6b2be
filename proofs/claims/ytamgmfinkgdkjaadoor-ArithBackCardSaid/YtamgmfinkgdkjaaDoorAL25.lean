/- A range over a function, sound. Seat-independent. -/
import Derived.Test.YtamgmfinkgdkjaaDoorAL24
namespace Go.AL
variable {P : Program}

/-- What the caller knows between two rounds. -/
structure Mid (K : KP) (E1 : Env) (l : Nat) (Ds : List Nat) (Oi Fi : Nat → Prop) (Oc : Nat → Prop) (E : Env) (hp : AHeap) : Prop where
  own : ∀ b, E.S.own b → Oc b
  oi : ∀ b, Oi b → Oc b
  k : K none Oc E.F E.w
  H : HRel E hp
  X1 : ShpExt E1.S E.S
  F1 : ∀ b, E1.F b → E.F b
  W1 : ∀ b, E1.F b → E.w.heap[b]? = E1.w.heap[b]?
  cap : ∀ (b : Nat) c e f, E1.w.heap[b]? = some (Obj.cells c e f) → ∃ c' e' f', E.w.heap[b]? = some (Obj.cells c' e' f') ∧ c'.size = c.size
  d1 : ∀ b, Oi b → ¬ E.S.own b
  d2 : ∀ b, Fi b → ¬ E.S.own b
  d3 : ∀ b, Oi b → ¬ Fi b → ¬ E.F b
  f1 : ∀ b, Fi b → E.F b ∨ Oc b
  lt : ∀ b, Oi b → b < E.w.heap.size
  sp : ∀ s, (s = l ∨ s ∈ Ds) → Oc s ∧ ¬ Oi s ∧ ¬ Fi s ∧ ¬ E.F s
  lp : ∃ r₀, E.w.heap[l]? = some (.loop r₀)
  dl : l ∉ Ds
  ds : ∀ D ∈ Ds, E.w.heap[D]? = some (.deferred (some []))

theorem Mid.spl {K : KP} {E1 : Env} {l : Nat} {Ds : List Nat} {Oi Fi Oc : Nat → Prop} {E : Env} {hp : AHeap} (M : Mid K E1 l Ds Oi Fi Oc E hp) {s : Nat} (hs : s = l ∨ s ∈ Ds) :
    s < E.w.heap.size ∧ ¬ E.S.own s := by
  have : ∃ o, E.w.heap[s]? = some o ∧ ∀ c e f, o ≠ Obj.cells c e f := by
    rcases hs with rfl | hs
    · obtain ⟨r₀, h⟩ := M.lp
      exact ⟨_, h, by simp⟩
    · exact ⟨_, M.ds s hs, by simp⟩
  obtain ⟨o, h1, h2⟩ := this
  refine ⟨(Array.getElem?_eq_some_iff.1 h1).1, fun ho => ?_⟩
  obtain ⟨c, e, f, hc⟩ := M.H.own_cells ho
  rw [h1] at hc
  exact h2 c e f (Option.some.inj hc)

/-- The iterator has gone on. -/
theorem Mid.step {K : KP} (hK : KStep K) {E1 : Env} {l : Nat} {Ds : List Nat} {Oi Fi Oc : Nat → Prop} {E : Env} {hp : AHeap} (M : Mid K E1 l Ds Oi Fi Oc E hp) {w' : World} {Oi' Fi' : Nat → Prop}
    (X : WX (fun b => Oi b ∧ ¬ Fi b) E.w w') (ho : ∀ b, Oi' b → Oi b ∨ (E.w.heap.size ≤ b ∧ b < w'.heap.size)) (hf1 : ∀ b, Fi b → Fi' b) (hf2 : ∀ b, Fi' b → Fi b ∨ Oi b ∨ (E.w.heap.size ≤ b ∧ b < w'.heap.size)) :
    Mid K E1 l Ds Oi' Fi' (fun b => Oc b ∨ (E.w.heap.size ≤ b ∧ b < w'.heap.size)) { E with w := w' } hp ∧ w'.heap[l]? = E.w.heap[l]? := by
  have hown : ∀ b, E.S.own b → w'.heap[b]? = E.w.heap[b]? := fun b hb => X.same b (M.H.own_lt hb) fun h => M.d1 b h.1 hb
  have hF : ∀ b, E.F b → w'.heap[b]? = E.w.heap[b]? := fun b hb => X.same b (M.H.frz b hb) fun h => M.d3 b h.1 h.2 hb
  have hsp : ∀ s, (s = l ∨ s ∈ Ds) → w'.heap[s]? = E.w.heap[s]? := fun s hs => X.same s (M.spl hs).1 fun h => (M.sp s hs).2.1 h.1
  refine ⟨⟨fun b hb => .inl (M.own b hb), fun b hb => ?_, ?_, M.H.world X.size hown hF X.cap, M.X1, M.F1, fun b hb => (hF b (M.F1 b hb)).trans (M.W1 b hb), fun b c e f h => ?_, fun b hb => ?_, fun b hb => ?_, fun b hb hn => ?_, fun b hb => ?_, fun b hb => ?_, fun s hs => ?_, ?_, M.dl, fun D hD => (hsp D (.inr hD)).trans (M.ds D hD)⟩, hsp l (.inl rfl)⟩
  · exact (ho b hb).imp (M.oi b) id
  · exact hK.step M.k (X.mono fun q _ h => ⟨M.oi q h.1, M.d3 q h.1 h.2⟩) (fun _ h => h) (fun _ h => h) fun _ h => .inl h
  · obtain ⟨c', e', f', h1, h2⟩ := M.cap b c e f h
    obtain ⟨c'', e'', f'', h3, h4⟩ := X.cap b c' e' f' h1
    exact ⟨c'', e'', f'', h3, h4.trans h2⟩
  · intro hown
    rcases ho b hb with h | h
    · exact M.d1 b h hown
    · have := M.H.own_lt hown; omega
  · intro hown
    rcases hf2 b hb with h | h | h
    · exact M.d2 b h hown
    · exact M.d1 b h hown
    · have := M.H.own_lt hown; omega
  · intro hf
    rcases ho b hb with h | h
    · exact M.d3 b h (fun x => hn (hf1 b x)) hf
    · have := M.H.frz b hf; omega
  · rcases hf2 b hb with h | h | h
    · exact (M.f1 b h).imp id .inl
    · exact .inr (.inl (M.oi b h))
    · exact .inr (.inr h)
  · rcases ho b hb with h | h
    · exact Nat.lt_of_lt_of_le (M.lt b h) X.size
    · exact h.2
  · obtain ⟨s1, s2, s3, s4⟩ := M.sp s hs
    have hlt := (M.spl hs).1
    refine ⟨.inl s1, fun h => ?_, fun h => ?_, s4⟩
    · rcases ho s h with h | h
      · exact s2 h
      · omega
    · rcases hf2 s h with h | h | h
      · exact s3 h
      · exact s2 h
      · omega
  · obtain ⟨r₀, h⟩ := M.lp
    exact ⟨r₀, (hsp l (.inl rfl)).trans h⟩

/-- How far a round has come. -/
structure Rnd (K : KP) (E : Env) (Fi Oc : Nat → Prop) (l : Nat) (E' : Env) (O' : Nat → Prop) : Prop where
  o : ∀ b, O' b → E.S.own b ∨ (E.w.heap.size ≤ b ∧ b < E'.w.heap.size)
  f1 : ∀ b, E.F b ∨ Fi b → E'.F b
  f2 : ∀ b, E'.F b → E.F b ∨ Fi b ∨ E.S.own b ∨ E.w.heap.size ≤ b
  wx : WX (fun b => E.S.own b ∨ b = l) E.w E'.w
  k : ∃ Oc', (∀ b, Oc b → Oc' b) ∧ (∀ b, O' b → Oc' b) ∧ K none Oc' E'.F E'.w
  own : ∀ b, E'.S.own b → O' b

section
variable {r : Option Nat} {K : KP} {E1 : Env} {l : Nat} {Ds : List Nat} {Oi Fi Oc : Nat → Prop} {E : Env} {hp : AHeap}

theorem Mid.round (hK : KStep K) (M : Mid K E1 l Ds Oi Fi Oc E hp) : Rnd K E Fi Oc l { E with F := fun b => E.F b ∨ Fi b } E.S.own :=
  ⟨fun _ h => .inl h, fun _ h => h, fun _ h => h.imp id .inl, (WX.refl (fun _ => False) _).mono fun _ _ h => h.elim, ⟨Oc, fun _ h => h, M.own, hK.step M.k (WX.refl _ _) (fun _ h => .inl h) (fun _ h => .inl h) fun b hb => hb.elim .inl fun h => (M.f1 b h).imp id .inl⟩, fun _ h => h⟩

theorem Rnd.noF (M : Mid K E1 l Ds Oi Fi Oc E hp) {E' : Env} {O' : Nat → Prop} (R : Rnd K E Fi Oc l E' O') {s : Nat} (hs : s = l ∨ s ∈ Ds) : ¬ E'.F s := by
  intro h
  obtain ⟨s1, s2, s3, s4⟩ := M.sp s hs
  obtain ⟨g1, g2⟩ := M.spl hs
  rcases R.f2 s h with h | h | h | h
  · exact s4 h
  · exact s3 h
  · exact g2 h
  · omega

theorem Rnd.noO (M : Mid K E1 l Ds Oi Fi Oc E hp) {E' : Env} {O' : Nat → Prop} (R : Rnd K E Fi Oc l E' O') {s : Nat} (hs : s = l ∨ s ∈ Ds) : ¬ O' s := by
  intro h
  obtain ⟨g1, g2⟩ := M.spl hs
  rcases R.o s h with h | h
  · exact g2 h
  · omega

theorem Rnd.kb (_M : Mid K E1 l Ds Oi Fi Oc E hp) {E' : Env} {O' Oc' : Nat → Prop} (R : Rnd K E Fi Oc l E' O') (ho : ∀ b, Oc b → Oc' b) {g : Gh} {O2 : Nat → Prop} {E2 : Env} (h : KB K E' Oc' g O2 E2.F E2.w) (hown : ∀ b, E2.S.own b → O2 b) :
    Rnd K E Fi Oc l E2 O2 := by
  obtain ⟨h1, h2, h3, h4, h5, h6⟩ := h
  refine ⟨fun b hb => ?_, fun b hb => h3 b (R.f1 b hb), fun b hb => ?_, ?_, ⟨_, fun b hb => .inl (ho b hb), fun b hb => .inr hb, h6⟩, hown⟩
  · rcases h2 b hb with h | h
    · exact (R.o b (R.own b h)).imp id fun h => ⟨h.1, Nat.lt_of_lt_of_le h.2 h5.size⟩
    · exact .inr ⟨Nat.le_trans R.wx.size h.1, h.2⟩
  · rcases h4 b hb with h | h | h
    · exact R.f2 b h
    · exact .inr (.inr ((R.o b (R.own b h)).imp id And.left))
    · exact .inr (.inr (.inr (Nat.le_trans R.wx.size h)))
  · refine (R.wx.trans h5).mono fun q hq h => ?_
    rcases h with h | h
    · exact h
    · rcases R.o q (R.own q h) with h | h
      · exact .inl h
      · omega

theorem Rnd.put (hK : KStep K) (M : Mid K E1 l Ds Oi Fi Oc E hp) {E' : Env} {O' : Nat → Prop} (R : Rnd K E Fi Oc l E' O') {rr : Loop} (hl : E'.w.heap[l]? = some (.loop rr)) (o : Obj) : Rnd K E Fi Oc l { E' with w := E'.w.putObj l o } O' := by
  have X := wx_put hl (by simp) o
  obtain ⟨Oc', k1, k2, k3⟩ := R.k
  refine ⟨fun b hb => (R.o b hb).imp id fun h => ⟨h.1, Nat.lt_of_lt_of_le h.2 X.size⟩, R.f1, R.f2, (R.wx.trans X).mono fun q _ h => h.elim id .inr, ⟨Oc', k1, k2, ?_⟩, R.own⟩
  exact hK.step k3 (X.mono fun q _ h => by
    have h : q = l := h
    subst h
    exact ⟨k1 _ (M.sp _ (.inl rfl)).1, R.noF M (.inl rfl)⟩) (fun _ h => .inl h) (fun _ h => h) fun _ h => .inl h

/-- Where a round leaves the caller. -/
theorem Mid.back {m : Nat} (hK : KStep K) (M : Mid K E1 l Ds Oi Fi Oc E hp) (hl1 : E1.S.ρ.length = m) (hm : m ≤ E.S.ρ.length) (hFi : ∀ b, Fi b → b < E.w.heap.size) {E3 : Env} {O3 : Nat → Prop} {hp3 : AHeap} (R : Rnd K E Fi Oc l E3 O3) (H3 : HRel E3 hp3)
    (X3 : ShpExt (E.S.pre m) E3.S) {keep fz : List Nat} (hok : okKeep m hp3.length (keep ++ fz) = true) {rr : Loop} (hl : E3.w.heap[l]? = some (.loop rr)) (rr' : Loop) :
    (∃ Oc5, Mid K E1 l Ds Oi Fi Oc5 { E3.gc m keep fz hp3 with w := E3.w.putObj l (.loop rr') } (gcH m keep fz hp3)) ∧ YX Oi Fi E.w (E3.w.putObj l (.loop rr')) ∧ (E3.w.putObj l (.loop rr')).heap[l]? = some (.loop rr') ∧ m ≤ (gcH m keep fz hp3).length ∧ (gcH m keep fz hp3).length = m + keep.length := by
  have hlp : (E.S.pre m).ρ.length = m := by simp only [Shp.pre, List.length_take]; omega
  have h0 : m ≤ hp3.length := by rw [← H3.len, ← hlp]; exact X3.le
  have hlt : l < E3.w.heap.size := (Array.getElem?_eq_some_iff.1 hl).1
  have R5 := R.put hK M hl (.loop rr')
  have X5 := wx_put hl (by simp) (.loop rr')
  have hlno : ¬ E3.S.own l := fun h => R.noO M (.inl rfl) (R.own l h)
  have hF : ∀ b, (E3.gc m keep fz hp3).F b → E3.F b ∨ E3.S.own b := by
    rintro b (h | ⟨k, base, bk, _, m2, m3⟩)
    · exact .inl h
    · exact .inr (H3.own_of m3 m2)
  obtain ⟨o1, _, _⟩ := okKeep_parts hok
  have hg : ∀ b, (E3.S.gc m keep).own b → E3.S.own b := fun b hb => gc_own H3 h0 o1 hb
  have hHg := H3.gc h0 hok
  have hne : ∀ b, E3.S.own b → b ≠ l := fun b hb he => hlno (he ▸ hb)
  have Yx : YX Oi Fi E.w (E3.w.putObj l (.loop rr')) := by
    have W := R5.wx
    refine ⟨W.os, W.tape, W.output, W.size, fun b hb h => W.same b hb fun hh => ?_, W.cap⟩
    rcases hh with hh | hh
    · rcases h with h | h
      · exact M.d1 b h hh
      · exact M.d2 b h hh
    · subst hh
      obtain ⟨_, s2, s3, _⟩ := M.sp b (.inl rfl)
      rcases h with h | h
      · exact s2 h
      · exact s3 h
  have hglen : (gcH m keep fz hp3).length = m + keep.length := by simp [gcH]; omega
  obtain ⟨Oc5, k1, k2, k3⟩ := R5.k
  refine ⟨⟨Oc5, ?_⟩, Yx, World.putObj_heap_same hlt, by omega, hglen⟩
  have hown5 : ∀ b, (E3.S.gc m keep).own b → O3 b := fun b hb => R.own b (hg b hb)
  refine ⟨fun b hb => k2 b (hown5 b hb), fun b hb => k1 b (M.oi b hb), ?_, ?_, M.X1.pre_trans M.H.rlen (by omega) (X3.gc H3 (by omega) h0), fun b hb => .inl (R.f1 b (.inl (M.F1 b hb))), fun b hb => ?_, fun b c e f h => ?_, fun b hb hown => ?_, fun b hb hown => ?_, fun b hb hn hf => ?_, fun b hb => ?_, fun b hb => ?_, fun s hs => ?_, ⟨rr', World.putObj_heap_same hlt⟩, M.dl, fun D hD => ?_⟩
  · exact hK.step k3 (WX.refl _ _) (fun _ h => .inl h) (fun _ h => .inl h) fun b hb => (hF b hb).imp id fun h => .inl (k2 b (R.own b h))
  · refine hHg.world X5.size (fun b hb => X5.same b (H3.own_lt (hg b hb)) (hne b (hg b hb))) (fun b hb => X5.same b (hHg.frz b hb) ?_) X5.cap
    intro he
    have he : b = l := he
    subst he
    rcases hF b hb with h | h
    · exact R.noF M (.inl rfl) h
    · exact hlno h
  · have hE := M.F1 b hb
    have h1 := M.H.frz b hE
    rw [← M.W1 b hb]
    refine R5.wx.same b h1 fun h => ?_
    rcases h with h | h
    · exact M.H.off b hE h
    · subst h; exact (M.sp b (.inl rfl)).2.2.2 hE
  · obtain ⟨c', e', f', h1, h2⟩ := M.cap b c e f h
    obtain ⟨c'', e'', f'', h3, h4⟩ := R5.wx.cap b c' e' f' h1
    exact ⟨c'', e'', f'', h3, h4.trans h2⟩
  · rcases R.o b (hown5 b hown) with h | h
    · exact M.d1 b hb h
    · have := M.lt b hb; omega
  · rcases R.o b (hown5 b hown) with h | h
    · exact M.d2 b hb h
    · have := hFi b hb; omega
  · have key : E3.F b ∨ E3.S.own b := hF b hf
    have hb1 := M.lt b hb
    rcases key with h | h
    · rcases R.f2 b h with h | h | h | h
      · exact M.d3 b hb hn h
      · exact hn h
      · exact M.d1 b hb h
      · omega
    · rcases R.o b (R.own b h) with h | h
      · exact M.d1 b hb h
      · omega
  · exact .inl (.inl (R.f1 b (.inr hb)))
  · exact Nat.lt_of_lt_of_le (M.lt b hb) R5.wx.size
  · obtain ⟨s1, s2, s3, s4⟩ := M.sp s hs
    refine ⟨k1 s s1, s2, s3, fun hf => ?_⟩
    rcases hF s hf with h | h
    · exact R.noF M hs h
    · exact R.noO M hs (R.own s h)
  · have hDl : D ≠ l := fun h => M.dl (h ▸ hD)
    obtain ⟨g1, g2⟩ := M.spl (.inr hD)
    rw [← M.ds D hD]
    exact R5.wx.same D g1 fun h => h.elim g2 hDl
end

end Go.AL
