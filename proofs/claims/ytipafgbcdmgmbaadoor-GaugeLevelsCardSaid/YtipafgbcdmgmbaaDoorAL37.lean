/- The library's strconv.Itoa at small numbers and strings.Join, as calls. Seat-independent. -/
import Derived.Shelf.Strconv.Itoa3
import Derived.Shelf.Strings.OnBuilder
import Derived.Test.YtipafgbcdmgmbaaDoorAL36
namespace Go.AL
open Go.RowKit Go.Shelf Go.Proofs
variable {P : Program} {ρ : Ren}

theorem CallsF.itoa (L : Lays.n171 P ρ) (i : Nat) (hi : i < 100) (h : AHeap) :
    CallsF P (ρ.f 171) [.int .i64 i] h (.str ⟨(Lib.decDigits i).toArray⟩) h := by
  refine CallsF.below ⟨_, L.f171, rfl, fun h => absurd (show "strconv.Itoa" = "runtime.NumGoroutine" from h) (by decide)⟩ fun E cs H _ hl ha => ?_
  obtain ⟨cs⟩ := cs
  match cs, hl with
  | [v], _ =>
    have h0 := ha 0 _ v rfl rfl
    cases h0
    exact (Any.strconv_Itoa_small L i hi E.w).mono fun e w' ⟨h1, h2⟩ => ⟨_, h1, fun w F S => .str S _, h2 ▸ Below.refl _ _⟩

/-- The table of the powers of ten is where it is, and holds what it holds. -/
theorem TabW.pow10 {F : Nat → Prop} {w : World} (h : TabW P F w) (hg : (P.globalNamed "internal/strconv.uint64pow10").isSome = true) : Lib.TabIs P w "internal/strconv.uint64pow10" .u64 Lib.pow10Tab := by
  obtain ⟨g, hg⟩ := Option.isSome_iff_exists.1 hg
  exact (h _ (List.mem_singleton.2 rfl) g hg).2

theorem CallsF.itoaAny (L : LaysM.n171 P ρ) (hg : (P.globalNamed "internal/strconv.uint64pow10").isSome = true) (n : Int) (h0 : -9223372036854775808 ≤ n) (h1 : n ≤ 9223372036854775807) (h : AHeap) :
    CallsF P (ρ.f 171) [.int .i64 n] h (.str ⟨(Lib.itoa n).toArray⟩) h := by
  refine CallsF.below ⟨_, L.f171, rfl, fun h => absurd (show "strconv.Itoa" = "runtime.NumGoroutine" from h) (by decide)⟩ fun E cs H hT hl ha => ?_
  obtain ⟨cs⟩ := cs
  match cs, hl with
  | [v], _ =>
    have h2 := ha 0 _ v rfl rfl
    cases h2
    exact (Any.strconv_Itoa L n h0 h1 E.w (hT.pow10 hg)).mono fun e w' ⟨h3, k, os, h4⟩ => ⟨_, h3, fun w F S => .str S _, h4 ▸ ⟨rfl, rfl, rfl, by show E.w.heap.size ≤ (E.w.heap ++ os).size; rw [Array.size_append]; omega, fun j hj => by show (E.w.heap ++ os)[j]? = E.w.heap[j]?; rw [Array.getElem?_append, if_pos hj]⟩⟩

theorem CallsF.join (L : Lays.n156 P ρ) (X : Builder.Extra P ρ) (x : ByteArray) (xs : List ByteArray) (sep : ByteArray) (hN : xs.length < 1000000)
    (hlen : (Lib.join ((x :: xs).map (·.data.toList)) sep.data.toList).length ≤ 140737488355328) (h : AHeap) :
    CallsF P (ρ.f 156) [.ro 1 ((x :: xs).map fun s => [.str s]), .str sep] h (.str ⟨(Lib.join ((x :: xs).map (·.data.toList)) sep.data.toList).toArray⟩) h := by
  refine CallsF.below ⟨_, L.f156, rfl, fun h => absurd (show "strings.Join" = "runtime.NumGoroutine" from h) (by decide)⟩ fun E cs H _ hl ha => ?_
  obtain ⟨cs⟩ := cs
  match cs, hl with
  | [v, u], _ =>
    have h0 := ha 0 _ v rfl rfl
    have h1 := ha 1 _ u rfl rfl
    cases h1
    cases h0 with
    | ro _ _ _ n cap a vs hn hc hr hv hz =>
      obtain ⟨_, cb, off, rfl, hF, _⟩ := hr 0 [.str x] rfl
      have hn' : n = (x :: xs).length := by rw [hn, List.length_map]
      subst hn'
      refine (Any.strings_Join L X cb off cap (x :: xs) sep E.w (fun j y hy => ?_) (H.frz cb hF) (by simp only [List.length_cons]; omega) hc hlen).mono fun e w' ⟨h1, h2⟩ => ⟨_, h1, fun w F S => .str S _, h2⟩
      have hj : ((x :: xs).map fun s => [AV.str s])[j]? = some [.str y] := by rw [List.getElem?_map, hy]; rfl
      obtain ⟨_, cb', off', hE, _, hcell⟩ := hr j _ hj
      cases hE
      have hc0 := hcell 0 _ rfl
      have hv0 := hv j 0 _ _ hj rfl
      cases hvj : vs j 0 <;> rw [hvj] at hv0 <;> cases hv0
      rw [Nat.mul_one, Nat.add_zero, hvj] at hc0
      exact hc0

end Go.AL
