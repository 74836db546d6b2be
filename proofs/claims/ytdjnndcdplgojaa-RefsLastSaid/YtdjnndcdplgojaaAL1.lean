/- The abstract values, their relation to the machine's, and how it is kept. Seat-independent. -/
import Derived.Calls
import Derived.Below
import Derived.Orders
import Derived.MapKept
namespace Go.AL

inductive AV where
  | int (k : IntKind) (n : Int)
  | bool (b : Bool)
  | str (s : ByteArray)
  | pnil
  | snil
  | semp
  | emp
  | fnil
  | inil
  | undef
  | bp (b j : Nat)
  | ep (b i j : Nat)
  | rp (row : List AV) (j : Nat)
  | sl (b i n : Nat)
  | ri (k : IntKind) (xs : List Int)
  | ro (s : Nat) (rows : List (List AV))
  | agg (cs : List AV)
  | tup (vs : List AV)
  | fn (f : FuncId) (cap : List AV)
  | yld (l : Nat)
  | gh (l : Nat) (r : Bool) (rest : List (List AV))
  | len (n : Nat)
  | slc (b i n c : Nat)
  | bt (b : Nat) (T : TypeId) (n : Nat)
  | ifv
  | mnil
  | map (b : Nat)
  deriving Inhabited

inductive ABlk where
  | box (cs : List AV)
  | ia (k : IntKind) (xs : List Int)
  | arr (s : Nat) (rows : List (List AV))
  | mp (es : List (Int × AV))
  deriving Inhabited

abbrev AHeap := List (Option ABlk)

structure Shp where
  ρ : List (Nat × Nat)
  sh : List (Option (Nat × Nat))

def Shp.nil : Shp := ⟨[], []⟩

/-- The relation of an abstract value to a machine's value, in a world, with a set of blocks that stay as they are, and with the own blocks' places. -/
inductive Rel (w : World) (F : Nat → Prop) : Shp → AV → Value → Prop
  | int (S k n) : Rel w F S (.int k n) (.int k n)
  | bool (S b) : Rel w F S (.bool b) (.bool b)
  | str (S s) : Rel w F S (.str s) (.string s)
  | pnil (S) : Rel w F S .pnil (.pointer none)
  | snil (S) : Rel w F S .snil (.slice none 0 0)
  | semp (S a) : Rel w F S .semp (.slice (some a) 0 0)
  | emp (S a cap) : Rel w F S .emp (.slice (some a) 0 cap)
  | fnil (S) : Rel w F S .fnil .nilFunc
  | inil (S) : Rel w F S .inil .nilIface
  | undef (S v) : Rel w F S .undef v
  | bp (S b j cb base off) : S.ρ[b]? = some (cb, base) → off = base + j → Rel w F S (.bp b j) (.pointer (some ⟨cb, off, none⟩))
  | ep (S b i j cb base off) : S.ρ[b]? = some (cb, base) → (∀ s N, S.sh[b]? = some (some (s, N)) → off = base + i * s + j) →
      Rel w F S (.ep b i j) (.pointer (some ⟨cb, off, none⟩))
  | rp (S row j cb base off) (vs : Nat → Value) : F cb → off = base + j → (∀ (j : Nat) x, row[j]? = some x → w.cell? ⟨cb, base + j, none⟩ = some (vs j)) →
      (∀ (j : Nat) x, row[j]? = some x → Rel w F .nil x (vs j)) → Rel w F S (.rp row j) (.pointer (some ⟨cb, off, none⟩))
  | sl (S b i n cb base off cap) : S.ρ[b]? = some (cb, base) →
      (∀ s N, S.sh[b]? = some (some (s, N)) → (cap = 0 ∨ off = base + i * s) ∧ i + n ≤ N ∧ N ≤ i + cap ∧ ∃ c e f, w.heap[cb]? = some (Obj.cells c e f) ∧ base + (i + cap) * s ≤ c.size) →
      n ≤ cap → Rel w F S (.sl b i n) (.slice (some ⟨cb, off, none⟩) n cap)
  | ri (S k xs n cap) (a : Option Addr) : n = xs.length → n ≤ cap →
      (∀ (i : Nat) x, xs[i]? = some x → ∃ cb off, a = some ⟨cb, off, none⟩ ∧ F cb ∧ w.cell? ⟨cb, off + i, none⟩ = some (.int k x)) → (a = none → cap = 0) →
      Rel w F S (.ri k xs) (.slice a n cap)
  | ro (S s rows n cap) (a : Option Addr) (vs : Nat → Nat → Value) : n = rows.length → n ≤ cap →
      (∀ (i : Nat) row, rows[i]? = some row → row.length = s ∧ ∃ cb off, a = some ⟨cb, off, none⟩ ∧ F cb ∧
        ∀ (j : Nat) x, row[j]? = some x → w.cell? ⟨cb, off + i * s + j, none⟩ = some (vs i j)) →
      (∀ (i j : Nat) row x, rows[i]? = some row → row[j]? = some x → Rel w F .nil x (vs i j)) → (a = none → cap = 0) →
      Rel w F S (.ro s rows) (.slice a n cap)
  | agg (S cs) (vs : Array Value) : cs.length = vs.size → (∀ (i : Nat) c v, cs[i]? = some c → vs[i]? = some v → Rel w F S c v) → Rel w F S (.agg cs) (.agg vs)
  | tup (S cs) (vs : Array Value) : cs.length = vs.size → (∀ (i : Nat) c v, cs[i]? = some c → vs[i]? = some v → Rel w F S c v) → Rel w F S (.tup cs) (.tuple vs)
  | fn (S f cs) (vs : Array Value) : cs.length = vs.size → (∀ (i : Nat) c v, cs[i]? = some c → vs[i]? = some v → Rel w F S c v) → Rel w F S (.fn f cs) (.func (.func f) #[] vs)
  | yld (S l) : Rel w F S (.yld l) (.func (.yield l) #[] #[])
  | gh (S l r rest) : Rel w F S (.gh l r rest) undef
  | len (S n cap) (a : Option Addr) : n ≤ cap → (a = none → cap = 0) → Rel w F S (.len n) (.slice a n cap)
  | slc (S b i n cap cb base off) : S.ρ[b]? = some (cb, base) →
      (∀ s N, S.sh[b]? = some (some (s, N)) → (cap = 0 ∨ off = base + i * s) ∧ i + cap = N ∧ ∃ c e f, w.heap[cb]? = some (Obj.cells c e f) ∧ base + N * s ≤ c.size) →
      n ≤ cap → Rel w F S (.slc b i n cap) (.slice (some ⟨cb, off, none⟩) n cap)

  | bt (S b T n cb c f) : S.ρ[b]? = some (cb, 0) → w.heap[cb]? = some (Obj.cells c T f) → c.size = n → Rel w F S (.bt b T n) (.pointer (some ⟨cb, 0, none⟩))
  | ifv (S te pe) : Rel w F S .ifv (.iface te pe)
  | mnil (S) : Rel w F S .mnil (.map none)
  | map (S b cb base) : S.ρ[b]? = some (cb, base) → Rel w F S (.map b) (.map (some cb))

structure Env where
  w : World
  F : Nat → Prop
  S : Shp

abbrev Env.R (E : Env) (x : AV) (v : Value) : Prop := Go.AL.Rel E.w E.F E.S x v

/-- A block that is own and alive. -/
def Shp.own (S : Shp) (b : Nat) : Prop := ∃ (k base : Nat) (p : Nat × Nat), S.ρ[k]? = some (b, base) ∧ S.sh[k]? = some (some p)

def ABlk.shape : ABlk → Nat × Nat
  | .box cs => (cs.length, 1)
  | .ia _ xs => (1, xs.length)
  | .arr s rows => (s, rows.length)
  | .mp _ => (3, 0)

/-- Cell number j of row number i. -/
def ABlk.cell : ABlk → Nat → Nat → Option AV
  | .box cs, i, j => if i = 0 then cs[j]? else none
  | .ia k xs, i, j => if j = 0 then (xs[i]?).map (.int k) else none
  | .arr _ rows, i, j => (rows[i]?).bind (·[j]?)
  | .mp es, i, j => (es[i]?).bind fun p => [AV.int .i64 p.1, p.2][j]?

def ABlk.fits : ABlk → Prop
  | .box _ => True
  | .ia _ _ => True
  | .arr s rows => ∀ (i : Nat) row, rows[i]? = some row → row.length = s
  | .mp _ => True

/-- A map's entries, three cells each. -/
def entsOf : List Value → List MapEntry
  | k :: v :: .int _ b :: r => ⟨k, v, b.toNat⟩ :: entsOf r
  | _ => []

def flatE : List MapEntry → List Value
  | [] => []
  | e :: r => e.key :: e.val :: .int .i64 e.born :: flatE r

theorem entsOf_flat : ∀ l, entsOf (flatE l) = l
  | [] => rfl
  | e :: r => by simp [flatE, entsOf, entsOf_flat r]

/-- The machine's block that holds these cells. -/
def ABlk.obj : ABlk → Array Value → Nat → Obj
  | .mp _, c, e => .map (entsOf c.toList).toArray e
  | _, c, e => .cells c e (0, 0)

/-- They are as many as must be. -/
def ABlk.room : ABlk → Nat → Array Value → Nat → Prop
  | .mp es, base, c, e => base = 0 ∧ ∃ ms : List MapEntry, c = (flatE ms).toArray ∧ ms.length = es.length ∧ MapKept.Stamped ms.toArray e
  | b, base, c, _ => base + b.shape.2 * b.shape.1 ≤ c.size

def ABlk.isM : ABlk → Bool
  | .mp _ => true
  | _ => false

theorem ABlk.obj_of {b : ABlk} (h : b.isM = false) (c : Array Value) (e : Nat) : b.obj c e = .cells c e (0, 0) := by
  cases b <;> first | rfl | cases h

theorem ABlk.room_of {b : ABlk} (h : b.isM = false) (base : Nat) (c : Array Value) (e : Nat) : b.room base c e = (base + b.shape.2 * b.shape.1 ≤ c.size) := by
  cases b <;> first | rfl | cases h

/-- A block holds cells or a map. -/
theorem ABlk.obj_cases (b : ABlk) (c : Array Value) (e : Nat) : b.obj c e = .cells c e (0, 0) ∨ ∃ es, b.obj c e = .map es e := by
  cases b <;> first | exact .inl rfl | exact .inr ⟨_, rfl⟩

/-- What stands in an array's rows hangs on no own block. -/
def ABlk.inner (S : Shp) : ABlk → Shp
  | .box _ => S
  | _ => .nil

/-- The abstract heap is the world's. -/
structure HRel (E : Env) (h : AHeap) : Prop where
  sh : E.S.sh = h.map (·.map ABlk.shape)
  len : E.S.ρ.length = h.length
  blk : ∀ (k : Nat) b, h[k]? = some (some b) → b.fits ∧ ∃ cb base c e, E.S.ρ[k]? = some (cb, base) ∧ E.w.heap[cb]? = some (b.obj c e) ∧ ¬ E.F cb ∧
    b.room base c e ∧
    ∀ i j x, b.cell i j = some x → ∃ v, c[base + i * b.shape.1 + j]? = some v ∧ Go.AL.Rel E.w E.F (b.inner E.S) x v
  inj : ∀ (k k' : Nat) b b' cb base base', h[k]? = some (some b) → h[k']? = some (some b') → E.S.ρ[k]? = some (cb, base) →
    E.S.ρ[k']? = some (cb, base') → k = k'
  frz : ∀ b, E.F b → b < E.w.heap.size

/-- A block of cells. -/
theorem HRel.cblk {E : Env} {h : AHeap} (H : HRel E h) (k : Nat) (b : ABlk) (hk : h[k]? = some (some b)) (hm : b.isM = false := by first | rfl | assumption) :
    b.fits ∧ ∃ cb base c e, E.S.ρ[k]? = some (cb, base) ∧ E.w.heap[cb]? = some (Obj.cells c e (0, 0)) ∧ ¬ E.F cb ∧
    base + b.shape.2 * b.shape.1 ≤ c.size ∧
    ∀ i j x, b.cell i j = some x → ∃ v, c[base + i * b.shape.1 + j]? = some v ∧ Go.AL.Rel E.w E.F (b.inner E.S) x v := by
  obtain ⟨h0, cb, base, c, e, h1, h2, h3, h4, h5⟩ := H.blk k b hk
  rw [ABlk.obj_of hm] at h2
  rw [ABlk.room_of hm] at h4
  exact ⟨h0, cb, base, c, e, h1, h2, h3, h4, h5⟩

/-- From one moment to a later one. -/
structure Ext (E E' : Env) : Prop where
  os : E'.w.os = E.w.os
  tape : E'.w.tape = E.w.tape
  output : E'.w.output = E.w.output
  size : E.w.heap.size ≤ E'.w.heap.size
  frz : ∀ b, E.F b → E'.F b
  same : ∀ b : Nat, b < E.w.heap.size → ¬ E.S.own b → E'.w.heap[b]? = E.w.heap[b]?
  rho : ∀ (k : Nat) p, E.S.ρ[k]? = some p → E'.S.ρ[k]? = some p
  sh : ∀ (k : Nat) p, k < E.S.sh.length → E'.S.sh[k]? = some (some p) → E.S.sh[k]? = some (some p)
  rlen : E.S.ρ.length = E.S.sh.length
  own : ∀ b, E'.S.own b → E.S.own b ∨ E.w.heap.size ≤ b
  nfrz : ∀ b, E'.F b → E.F b ∨ E.S.own b ∨ E.w.heap.size ≤ b
  cap : ∀ (b : Nat) c e f, E.w.heap[b]? = some (Obj.cells c e f) → ∃ c' e' f', E'.w.heap[b]? = some (Obj.cells c' e' f') ∧ c'.size = c.size ∧ e' = e
  mcap : ∀ (b : Nat) es k, E.w.heap[b]? = some (Obj.map es k) → ∃ es' k', E'.w.heap[b]? = some (Obj.map es' k')
  off : ∀ b, E.F b → ¬ E.S.own b


theorem Rel.mono {w w' : World} {F F' : Nat → Prop} (hF : ∀ b, F b → F' b) (hc : ∀ b o, F b → w'.cell? ⟨b, o, none⟩ = w.cell? ⟨b, o, none⟩)
    {S : Shp} {x : AV} {v : Value} (h : Rel w F S x v) :
    ∀ S' : Shp, (∀ (k : Nat) p, S.ρ[k]? = some p → S'.ρ[k]? = some p) →
      (∀ (k : Nat) p q, S.ρ[k]? = some q → S'.sh[k]? = some (some p) → S.sh[k]? = some (some p)) →
      (∀ (b : Nat) c e f, w.heap[b]? = some (Obj.cells c e f) → ∃ c' e' f', w'.heap[b]? = some (Obj.cells c' e' f') ∧ c'.size = c.size ∧ e' = e) → Rel w' F' S' x v := by
  induction h with
  | int => intros; exact .int ..
  | bool => intros; exact .bool ..
  | str => intros; exact .str ..
  | pnil => intros; exact .pnil ..
  | snil => intros; exact .snil ..
  | semp => intros; exact .semp ..
  | emp => intros; exact .emp ..
  | fnil => intros; exact .fnil ..
  | inil => intros; exact .inil ..
  | undef => intros; exact .undef ..
  | bp S b j cb base off h1 h2 => intro S' hr hs hp; exact .bp _ _ _ _ _ _ (hr _ _ h1) h2
  | ep S b i j cb base off h1 h2 => intro S' hr hs hp; exact .ep _ _ _ _ _ _ _ (hr _ _ h1) fun s N h => h2 s N (hs _ _ _ h1 h)
  | rp S row j cb base off vs h0 h1 h2 h3 ih =>
    intro S' hr hs hp
    exact .rp _ _ _ _ _ _ vs (hF _ h0) h1 (fun j x hx => by rw [hc _ _ h0]; exact h2 j x hx) fun j x hx => ih j x hx _ (fun _ _ h => h) (fun _ _ _ _ h => h) hp
  | sl S b i n cb base off cap h1 h2 h3 =>
    intro S' hr hs hp
    refine .sl _ _ _ _ _ _ _ _ (hr _ _ h1) (fun s N h => ?_) h3
    obtain ⟨a1, a2, a3, c, e, f, a4, a5⟩ := h2 s N (hs _ _ _ h1 h)
    obtain ⟨c', e', f', b1, b2⟩ := hp _ _ _ _ a4
    exact ⟨a1, a2, a3, c', e', f', b1, by omega⟩
  | ri S k xs n cap a h1 h2 h3 h4 =>
    intro S' hr hs hp
    refine .ri _ _ _ _ _ _ h1 h2 (fun i x hx => ?_) h4
    obtain ⟨cb, off, b1, b2, b3⟩ := h3 i x hx
    exact ⟨cb, off, b1, hF _ b2, by rw [hc _ _ b2]; exact b3⟩
  | ro S s rows n cap a vs h1 h2 h3 h4 h5 ih =>
    intro S' hr hs hp
    refine .ro _ _ _ _ _ _ vs h1 h2 (fun i row hx => ?_) (fun i j row x hx hy => ih i j row x hx hy _ (fun _ _ h => h) (fun _ _ _ _ h => h) hp) h5
    obtain ⟨b0, cb, off, b1, b2, b3⟩ := h3 i row hx
    exact ⟨b0, cb, off, b1, hF _ b2, fun j x hj => by rw [hc _ _ b2]; exact b3 j x hj⟩
  | agg S cs vs h1 h2 ih => intro S' hr hs hp; exact .agg _ _ _ h1 fun i c v hx hy => ih i c v hx hy _ hr hs hp
  | tup S cs vs h1 h2 ih => intro S' hr hs hp; exact .tup _ _ _ h1 fun i c v hx hy => ih i c v hx hy _ hr hs hp
  | fn S f cs vs h1 h2 ih => intro S' hr hs hp; exact .fn _ _ _ _ h1 fun i c v hx hy => ih i c v hx hy _ hr hs hp
  | yld => intros; exact .yld ..
  | gh => intros; exact .gh ..
  | len S n cap a h1 h2 => intros; exact .len _ _ _ _ h1 h2
  | slc S b i n cap cb base off h1 h2 h3 =>
    intro S' hr hs hp
    refine .slc _ _ _ _ _ _ _ _ (hr _ _ h1) (fun s N h => ?_) h3
    obtain ⟨a1, a2, c, e, f, a4, a5⟩ := h2 s N (hs _ _ _ h1 h)
    obtain ⟨c', e', f', b1, b2⟩ := hp _ _ _ _ a4
    exact ⟨a1, a2, c', e', f', b1, by omega⟩
  | bt S b T n cb c f h1 h2 h3 =>
    intro S' hr hs hp
    obtain ⟨c', e', f', b1, b2, rfl⟩ := hp _ _ _ _ h2
    exact .bt _ _ _ _ _ _ _ (hr _ _ h1) b1 (by omega)
  | ifv => intros; exact .ifv ..
  | mnil => intros; exact .mnil ..
  | map S b cb base h1 => intro S' hr hs hp; exact .map _ _ _ _ (hr _ _ h1)

theorem cell_of_heap {w w' : World} {b : Nat} (h : w'.heap[b]? = w.heap[b]?) (o : Nat) (sp : Option Nat) : w'.cell? ⟨b, o, sp⟩ = w.cell? ⟨b, o, sp⟩ := by
  simp only [World.cell?, h]

theorem Rel.ext {E E' : Env} (hE : Ext E E') (hz : ∀ b, E.F b → b < E.w.heap.size) {x : AV} {v : Value} (h : E.R x v) : E'.R x v := by
  refine Rel.mono hE.frz (fun b o hb => cell_of_heap (hE.same b (hz b hb) (hE.off b hb)) _ _) h _ hE.rho (fun k p q hq hp => hE.sh k p ?_ hp) hE.cap
  rw [← hE.rlen]; exact (List.getElem?_eq_some_iff.1 hq).1

/-- What hangs on no own block may be taken anywhere. -/
theorem Rel.nil_to {w : World} {F : Nat → Prop} {x : AV} {v : Value} (h : Rel w F .nil x v) (S : Shp) : Rel w F S x v :=
  Rel.mono (fun _ h => h) (fun _ _ _ => rfl) h S (fun k p hp => by simp [Shp.nil] at hp) (fun k p q hq => by simp [Shp.nil] at hq) fun b c e f h => ⟨c, e, f, h, rfl, rfl⟩

theorem Ext.refl {E : Env} (hl : E.S.ρ.length = E.S.sh.length) (ho : ∀ b, E.F b → ¬ E.S.own b) : Ext E E :=
  ⟨rfl, rfl, rfl, Nat.le_refl _, fun _ h => h, fun _ _ _ => rfl, fun _ _ h => h, fun _ _ _ h => h, hl, fun _ h => .inl h, fun _ h => .inl h, fun _ c e f h => ⟨c, e, f, h, rfl, rfl⟩, fun _ es q h => ⟨es, q, h⟩, ho⟩

theorem Ext.trans {A B C : Env} (h : Ext A B) (k : Ext B C) : Ext A C where
  os := k.os.trans h.os
  tape := k.tape.trans h.tape
  output := k.output.trans h.output
  size := Nat.le_trans h.size k.size
  frz b hb := k.frz b (h.frz b hb)
  same b hb hn := by
    rw [k.same b (Nat.lt_of_lt_of_le hb h.size) (fun ho => (h.own b ho).elim hn (by omega)), h.same b hb hn]
  rho i p hp := k.rho i p (h.rho i p hp)
  sh i p hi hp := by
    refine h.sh i p hi (k.sh i p ?_ hp)
    rw [← h.rlen] at hi
    have := h.rho i _ (List.getElem?_eq_getElem hi)
    rw [← k.rlen]
    exact (List.getElem?_eq_some_iff.1 this).1
  rlen := h.rlen
  own b hb := (k.own b hb).elim (h.own b) fun hs => .inr (Nat.le_trans h.size hs)
  nfrz b hb := (k.nfrz b hb).elim (h.nfrz b) fun hs => hs.elim (fun ho => (h.own b ho).elim (fun x => .inr (.inl x)) fun x => .inr (.inr x)) fun hs => .inr (.inr (Nat.le_trans h.size hs))
  cap b c e f hb := by
    obtain ⟨c', e', f', h1, h2⟩ := h.cap b c e f hb
    obtain ⟨c'', e'', f'', h3, h4⟩ := k.cap b c' e' f' h1
    exact ⟨c'', e'', f'', h3, h4.1.trans h2.1, h4.2.trans h2.2⟩
  mcap b es q hb := by
    obtain ⟨es', q', h1⟩ := h.mcap b es q hb
    exact k.mcap b es' q' h1
  off := h.off

end Go.AL
