/- The numbers of a buffer, as a call: the contract. -/
import Derived.Test.YtdjnndcdplgojaaN25O
namespace Go.Proofs.TryN
open Go Go.AL Go.Proofs Go.RowKit Go.Maps Go.Sort Go.Shelf

theorem numbers_nil : CallsF Try.prog 16 [.pnil] [] .snil [] := by
  refine e16 ?_
  conv => whnf
  conv => whnf
  exact ⟨[], [], rfl, rfl, rfl⟩

theorem keys_of {w : World} {F : Nat → Prop} {es : List (Int × AV)} {ms : List MapEntry} (hE : Ents w F es ms) : ms.map (·.key) = (es.map (·.1)).map encZ := by
  apply List.ext_getElem?
  intro i
  rw [List.getElem?_map, List.getElem?_map, List.getElem?_map]
  by_cases hi : i < es.length
  · obtain ⟨m, g1, g2, _⟩ := hE.at' i es[i].1 es[i].2 (List.getElem?_eq_getElem hi)
    rw [g1, List.getElem?_eq_getElem hi]
    simp [g2]
  · rw [List.getElem?_eq_none (by rw [hE.len]; omega), List.getElem?_eq_none (by omega)]; rfl

theorem numbers_spec (es : List (Int × AV)) (hl : es.length ≤ 100) (hw : ∀ p ∈ es, 0 ≤ p.1 ∧ p.1 ≤ 2147483647) (hne : es ≠ []) :
    CallsF Try.prog 16 [.bp 0 0] [some (.box [.map 1]), some (.mp es)] (.ri .i64 (keysU es)) [some (.box [.map 1]), some (.mp es)] := by
  refine CallsF.belowZ ⟨_, Try.func16, rfl, fun h => absurd (show "(*shingle/refs.Buffer).Numbers" = "runtime.NumGoroutine" from h) (by decide)⟩ fun E cs H _ hlen ha => ?_
  obtain ⟨cs⟩ := cs
  match cs, hlen with
  | [v], _ =>
    have hv := ha 0 _ v rfl rfl
    cases hv with
    | bp _ _ _ cb base off r0 ho =>
      obtain ⟨_, cb', base', c, e, h1, h2, h3, h4, h5⟩ := H.cblk 0 (.box [.map 1]) rfl
      rw [r0] at h1
      obtain ⟨rfl, rfl⟩ := Prod.mk.inj (Option.some.inj h1)
      obtain ⟨u, hu, hR⟩ := h5 0 0 (.map 1) rfl
      obtain ⟨mb, mbase, rfl, hr⟩ := rel_map (E := E) hR rfl
      obtain ⟨ms, clock, g1, g2, _, _, hE⟩ := map_of H (b := 1) rfl hr
      have hlm : ms.length ≤ 100 := by rw [hE.len]; exact hl
      obtain ⟨D0, hown, hsz, hperm⟩ := owns_of g1 g2 hlm (keys_of hE) (fun k hk => by
        obtain ⟨p, hp, rfl⟩ := List.mem_map.1 hk
        obtain ⟨w1, w2⟩ := hw p hp
        have hmin : IntKind.i64.min = -9223372036854775808 := rfl
        simp [Lit.wf]
        omega)
      have hcell : E.w.cell? ⟨cb, off, none⟩ = some (.map (some mb)) := by
        rw [ho]
        simp only [World.cell?, h2]
        simpa using hu
      have hmax : (100 : Nat) ≤ maxLen := by decide
      refine (numbers_m cb off mb 100 D0 rAny E.w hcell hown (by omega) (by omega)).mono ?_
      rintro e' w' ⟨v, ss, rfl, hS, hrow, hnil, hB⟩
      have hks : ss.mergeSort leI = keysU es := mergeSort_of_perm_i (hS.trans hperm)
      rcases hrow.2 with ⟨rfl, hz⟩ | ⟨gb, cap, cur, rfl, hbase, hgb, q1, q2, q3, q4⟩
      · exfalso
        have h0 : ss = [] := List.eq_nil_of_length_eq_zero hz
        subst h0
        have := (hS.trans hperm).length_eq
        simp at this
        exact hne (List.eq_nil_of_length_eq_zero this.symm)
      · refine ⟨_, gb, rfl, hbase, (Array.getElem?_eq_some_iff.1 hgb).1, .ri _ _ _ _ _ _ ?_ q1 (fun i x hx => ⟨gb, 0, rfl, .inr rfl, ?_⟩) (by simp), hB⟩
        · rw [← hks]; simp
        · rw [← hks] at hx
          have h6 : (cur.toList.take (ss.length * 1))[i]? = some (encZ x) := by
            rw [q4]
            show ((ss.mergeSort leI).map encZ)[i]? = _
            rw [List.getElem?_map, hx]; rfl
          rw [List.getElem?_take] at h6
          split at h6 <;> try (cases h6; done)
          simp only [World.cell?, hgb]
          simpa using h6

theorem numbers_none :
    CallsF Try.prog 16 [.bp 0 0] [some (.box [.map 1]), some (.mp [])] .snil [some (.box [.map 1]), some (.mp [])] := by
  refine CallsF.below ⟨_, Try.func16, rfl, fun h => absurd (show "(*shingle/refs.Buffer).Numbers" = "runtime.NumGoroutine" from h) (by decide)⟩ fun E cs H _ hlen ha => ?_
  obtain ⟨cs⟩ := cs
  match cs, hlen with
  | [v], _ =>
    have hv := ha 0 _ v rfl rfl
    cases hv with
    | bp _ _ _ cb base off r0 ho =>
      obtain ⟨_, cb', base', c, e, h1, h2, h3, h4, h5⟩ := H.cblk 0 (.box [.map 1]) rfl
      rw [r0] at h1
      obtain ⟨rfl, rfl⟩ := Prod.mk.inj (Option.some.inj h1)
      obtain ⟨u, hu, hR⟩ := h5 0 0 (.map 1) rfl
      obtain ⟨mb, mbase, rfl, hr⟩ := rel_map (E := E) hR rfl
      obtain ⟨ms, clock, g1, g2, _, _, hE⟩ := map_of H (b := 1) rfl hr
      have hlm : ms.length = 0 := hE.len
      obtain ⟨D0, hown, hsz, hperm⟩ := owns_of g1 g2 (by omega) (keys_of hE) (fun k hk => by simp at hk)
      have hcell : E.w.cell? ⟨cb, off, none⟩ = some (.map (some mb)) := by
        rw [ho]
        simp only [World.cell?, h2]
        simpa using hu
      have hmax : (100 : Nat) ≤ maxLen := by decide
      refine (numbers_m cb off mb 100 D0 rAny E.w hcell hown (by omega) (by omega)).mono ?_
      rintro e' w' ⟨v, ss, rfl, hS, hrow, hnil, hB⟩
      have h0 : ss = [] := List.eq_nil_of_length_eq_zero (by simpa using (hS.trans hperm).length_eq)
      exact ⟨_, rfl, fun w F S => by rw [hnil.2 h0]; exact .snil _, hB⟩

end Go.Proofs.TryN

