/- The numbers of a buffer, as a call. -/
import Derived.Test.YtdjnndcdplgojaaN25N
import Derived.Test.YtdjnndcdplgojaaAL36
import Derived.Test.YtdjnndcdplgojaaAL11
namespace Go.Proofs.TryN
open Go Go.AL Go.Proofs Go.RowKit Go.Maps Go.Sort Go.Shelf

/-- A map's keys, rising. -/
def keysU (es : List (Int × AV)) : List Int := (es.map (·.1)).mergeSort leI

/-- How a value reads that isn't asked: anyhow. -/
def rAny : Value → Option (DataW Unit × List MemPlace) := fun _ => some (.nil, [])

theorem owns_of {w : World} {mb : Nat} {ms : List MapEntry} {clock : Nat} (h1 : w.heap[mb]? = some (.map ms.toArray clock)) (hst : MapKept.Stamped ms.toArray clock) (hl : ms.length ≤ 100)
    {ks : List Int} (hk : ms.map (·.key) = ks.map encZ) (hw : ∀ k ∈ ks, (Lit.int .i64 k).wf = true) :
    ∃ D0 : DataW Unit, w.ownsMap Try.prog 3 rAny mb 100 D0 ∧ Maps.size D0 ≤ 100 ∧ (intKeys D0).Perm ks := by
  have hkey : ∀ x ∈ ms, ∃ k, x.key = encZ k ∧ (Lit.int .i64 k).wf = true := fun x hx => by
    have : x.key ∈ ms.map (·.key) := List.mem_map.2 ⟨x, hx, rfl⟩
    rw [hk] at this
    obtain ⟨k, h1, h2⟩ := List.mem_map.1 this
    exact ⟨k, h2.symm, hw k h1⟩
  have hrd : ∀ x ∈ ms, ∀ k, x.key = encZ k → (Lit.int .i64 k).wf = true → WideElems.rd Try.prog 3 rAny x = some (.int .i64 k, .nil) := fun x _ k h1 h2 => by
    unfold WideElems.rd
    rw [h1, keyOf_int_mk Try.underlying3 h2]
    rfl
  refine ⟨.map ((ms.map (WideElems.rg Try.prog 3 rAny)).foldr DataW.insert []), ⟨ms.toArray, clock, h1, ⟨?_, hst, fun x hx => ?_⟩, by simpa using hl, by simp⟩, ?_, ?_⟩
  · have : (100 : Nat) ≤ maxLen := by decide
    simp; omega
  · obtain ⟨k, h1, h2⟩ := hkey x (by simpa using hx)
    exact ⟨_, hrd x (by simpa using hx) k h1 h2⟩
  · have := (WideShapes.sorted_perm (ms.map (WideElems.rg Try.prog 3 rAny))).length_eq
    simp only [Maps.size]
    rw [this]; simpa using hl
  · refine ((WideShapes.sorted_perm (ms.map (WideElems.rg Try.prog 3 rAny))).map fun p => _root_.Go.intOf p.1).trans ?_
    rw [List.map_map]
    have : ms.map ((fun p => _root_.Go.intOf p.1) ∘ WideElems.rg Try.prog 3 rAny) = ks := by
      have h2 : ms.map ((fun p : Lit × DataW Unit => _root_.Go.intOf p.1) ∘ WideElems.rg Try.prog 3 rAny) = (ms.map (·.key)).map fun v => match v with | .int _ k => k | _ => 0 := by
        rw [List.map_map]
        apply List.map_congr_left
        intro x hx
        obtain ⟨k, h1, h2⟩ := hkey x hx
        simp only [Function.comp, WideElems.rg, hrd x hx k h1 h2, Option.getD_some, _root_.Go.intOf, h1]
      rw [h2, hk, List.map_map]
      exact (List.map_congr_left fun _ _ => rfl).trans (List.map_id _)
    rw [this]

end Go.Proofs.TryN

