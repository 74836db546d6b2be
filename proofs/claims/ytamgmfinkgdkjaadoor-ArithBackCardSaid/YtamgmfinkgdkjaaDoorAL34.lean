/- Calls that answer one of several closed values. Seat-independent. -/
import Derived.Test.YtamgmfinkgdkjaaDoorAL33
namespace Go.AL
variable {P : Program}

/-- A slice that hangs on nothing. -/
def Cl (v : AV) : Prop := v = .snil ∨ v = .semp ∨ ∃ k xs, v = .ri k xs

theorem Cl.ren {v : AV} (h : Cl v) (σ : Nat → Option Nat) (φ : Nat → Option ABlk) : ren2 σ φ v = v := by
  rcases h with rfl | rfl | ⟨k, xs, rfl⟩ <;> rfl
theorem Cl.view {v : AV} (h : Cl v) (hp : AHeap) (own bor : List Nat) : view1 hp own bor v = some v := by
  rcases h with rfl | rfl | ⟨k, xs, rfl⟩ <;> rfl

theorem CallsF.callV {f : FuncId} {args args' : List AV} {hp h0 hv : AHeap} {v : AV} {K : AV → AHeap → Prop} (own bor : List Nat) (h : CallsF P f args' h0 v hv) (hc : Cl v) (hargs : mapO (view1 hp own bor) args = some args') (hv0 : viewH hp own own = some h0)
    (hok : okKeep 0 hp.length own = true) (hbl : liveAll hp bor = true) (hap : apartAll own bor = true) (hb : bor = [] ∨ (noF2 v && noFH hv) = true) (hK : fLg fBn (backH own hp hv) fun hp => K v hp) : CallsA P f args hp K := by
  refine CallsF.call own bor h hargs hv0 hok hbl hap hb ?_
  rw [f2n_iff, hc.ren]
  exact hK

theorem mapO_one {hp : AHeap} {own bor : List Nat} {v : AV} (h : Cl v) {xs ys : List AV} (hx : mapO (view1 hp own bor) xs = some ys) : mapO (view1 hp own bor) (v :: xs) = some (v :: ys) := by
  simp only [mapO, h.view, hx]

end Go.AL
