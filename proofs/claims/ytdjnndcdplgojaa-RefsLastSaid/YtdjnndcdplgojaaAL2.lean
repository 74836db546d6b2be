/- The abstract code and what it does to an abstract state: a weakest precondition that is reckoned by definition. Seat-independent. -/
import Derived.Test.YtdjnndcdplgojaaAL1
import Derived.RangeFuncNested
import Derived.RangeFuncLeaves
import Derived.OrdersIn
import Derived.TacticsIn
import Derived.Laws.BytesArg
import Derived.Lib.ItoaNum
namespace Go.AL

inductive Opd where
  | tmp (t : Nat)
  | const (v : AV)
  deriving Inhabited

inductive AOp where
  | mov (x : Opd)
  | pick (c a b : Opd)
  | alloc (z : List AV)
  | allocT (T : TypeId) (z : List AV)
  | box (x : Opd)
  | build (z : List AV) (parts : List (Nat × Nat × Opd))
  | bslice (s : Nat) (z : List AV) (len : Nat) (parts : List (Nat × Opd))
  | bfrz (s : Nat) (z : List AV) (len : Nat) (parts : List (Nat × Opd))
  | load1 (a : Opd)
  | loadN (n : Nat) (a : Opd)
  | store (n : Nat) (a x : Opd)
  | nilc (x : Opd)
  | bin (op : BinOp) (x y : Opd)
  | eq1 (neg : Bool) (k : Nat) (x y : Opd)
  | eqv (neg : Bool) (offs : List (Nat × Nat)) (x y : Opd)
  | un (op : UnOp) (x : Opd)
  | conv (k : IntKind) (x : Opd)
  | mkfn (f : FuncId) (cap : List Opd)
  | mkslice (bytes s : Nat) (z : List AV) (len cap : Opd)
  | mkfrz (bytes s : Nat) (z : List AV) (len cap : Opd)
  | slice (s : Nat) (x : Opd) (lo hi : Option Opd)
  | sliceStr (x : Opd) (lo hi : Option Opd)
  | fld (off : Nat) (a : Opd)
  | field (off n : Nat) (one : Bool) (x : Opd)
  | idxA (len s : Nat) (a i : Opd)
  | idxS (s : Nat) (x i : Opd)
  | indexA (len s : Nat) (one : Bool) (x i : Opd)
  | indexStr (x i : Opd)
  | ext (t : Opd) (i : Nat)
  | lenS (x : Opd)
  | lenL (x : Opd)
  | append (bytes s : Nat) (x y : Opd)
  | appendZ (bytes : Nat) (z : List AV) (x n : Opd)
  | appendS (bytes : Nat) (x y : Opd)
  | strB (x : Opd)
  | bytesS (x : Opd)
  | markS (x : Opd)
  | copy (s : Nat) (x y : Opd)
  | capS (x : Opd)
  | slice3 (s : Nat) (x : Opd) (lo hi top : Option Opd)
  | clear (s : Nat) (z : List AV) (x : Opd)
  | mkmap
  | mlook (z : AV) (ok : Bool) (x i : Opd)
  | mlen (x : Opd)
  | mdel (x i : Opd)
  | mset (x i v : Opd)
  | mx (x y : Opd)
  | mn (x y : Opd)
  | call (f : FuncId) (args : List Opd)
  | callv (f : Opd) (args : List Opd)
  deriving Inhabited

structure AOper where
  dst : Option Nat
  op : AOp
  guard : Option (Nat × Bool)
  po : Bool := false
  rs : List (Nat × AOp) := []
  deriving Inhabited

inductive ACode where
  | skip
  | region (ops : List AOper)
  | draw (ops : List AOper)
  | seq (a b : ACode)
  | cond (c : Opd) (a b : ACode)
  | block (id : Nat) (c : ACode)
  | loop (c : ACode)
  | exit (id : Nat)
  | ret
  | rangef (g : Opd) (ps : List Nat) (assign body : ACode)
  | pt
  | both (a b : ACode)
  deriving Inhabited

structure St where
  tm : List (Nat × AV)
  hp : AHeap
  hn : Nat
  n0 : Nat

def look : List (Nat × AV) → Nat → AV
  | [], _ => .undef
  | (u, v) :: r, t => match Nat.beq u t with | true => v | false => look r t

def ev (tm : List (Nat × AV)) : Opd → AV
  | .tmp t => look tm t
  | .const v => v

def nth {α : Type} : List α → Nat → Option α
  | [], _ => none
  | x :: _, 0 => some x
  | _ :: xs, n + 1 => nth xs n

/-- What happens to the heap. -/
inductive Eff where
  | keep
  | push (b : ABlk)
  | put (k : Nat) (b : ABlk)
  | move (k : Nat) (b : ABlk)
  | kill (k : Nat)

def lset {α : Type} : List α → Nat → α → List α
  | [], _, _ => []
  | _ :: xs, 0, y => y :: xs
  | x :: xs, n + 1, y => x :: lset xs n y

/-- n cells from j on. -/
def part (cs : List AV) (j n : Nat) : Option (List AV) :=
  match Nat.ble (j + n) cs.length with
  | true => some ((cs.drop j).take n)
  | false => none

/-- Cells read at an address: the condition, the cells. -/
def readAt (hp : AHeap) : AV → Nat → Option (Bool × List AV)
  | .bp b j, n => match nth hp b with
    | some (some (.box cs)) => (part cs j n).map fun l => (true, l)
    | _ => none
  | .rp row j, n => (part row j n).map fun l => (true, l)
  | .ep b i j, n => match nth hp b with
    | some (some (.ia k xs)) => match j, n with
      | 0, 1 => some (decide (i < xs.length), [.int k (xs.getD i 0)])
      | _, _ => none
    | some (some (.arr _ rows)) => match nth rows i with
      | some row => (part row j n).map fun l => (true, l)
      | none => none
    | _ => none
  | _, _ => none

/-- Does a value hang on no own block by its looks? -/
def closed : AV → Bool
  | .int .. | .bool .. | .str .. | .pnil | .snil | .semp | .emp | .fnil | .inil | .ifv | .mnil | .rp .. | .ri .. | .ro .. | .yld _ | .len _ => true
  | _ => false

/-- The same, with what isn't known. -/
def closedU : AV → Bool
  | .undef => true
  | x => closed x

/-- The same of a struct. -/
def closed1 : AV → Bool
  | .agg cs => cs.all closedU
  | x => closed x

/-- May a value stand in a cell? -/
def leaf : AV → Bool
  | .agg _ | .tup _ | .undef | .gh .. => false
  | _ => true

def splice (cs : List AV) (j : Nat) (new : List AV) : List AV :=
  match j with
  | 0 => new ++ cs.drop new.length
  | j + 1 => match cs with
    | [] => []
    | c :: cs => c :: splice cs j new

def AV.cells : AV → List AV
  | .agg cs => cs
  | .undef => []
  | v => [v]

/-- Cells written at an address. -/
def writeAt (hp : AHeap) : AV → List AV → Option (Bool × Eff)
  | .bp b j, new => match nth hp b with
    | some (some (.box cs)) => match Nat.ble (j + new.length) cs.length && new.all leaf with
      | true => some (true, .put b (.box (splice cs j new)))
      | false => none
    | _ => none
  | .ep b i j, new => match nth hp b with
    | some (some (.ia k xs)) => match j, new with
      | 0, [.int k' n] => match decide (k' = k) with
        | true => some (decide (i < xs.length), .put b (.ia k (xs.set i n)))
        | false => none
      | _, _ => none
    | some (some (.arr s rows)) => match nth rows i with
      | some row => match Nat.ble (j + new.length) row.length && new.all closed with
        | true => some (true, .put b (.arr s (lset rows i (splice row j new))))
        | false => none
      | none => none
    | _ => none
  | _, _ => none

def fill (cells : List AV) : List (Nat × Nat × AV) → Option (List AV)
  | [] => some cells
  | (off, n, v) :: r => match Nat.beq v.cells.length n && Nat.ble (off + n) cells.length with
    | true => fill (splice cells off v.cells) r
    | false => none

/-- A new block of rows: numbers where they are. -/
def intsOf : List (List AV) → Option (IntKind × List Int)
  | [] => none
  | [[.int k n]] => some (k, [n])
  | [.int k n] :: r => match intsOf r with
    | some (k', l) => match decide (k = k') with | true => some (k, n :: l) | false => none
    | none => none
  | _ => none

def rowsBlk (s : Nat) (rows : List (List AV)) : Option ABlk :=
  match intsOf rows with
  | some (k, l) => some (.ia k l)
  | none => match rows.all (fun r => Nat.beq r.length s && r.all closed) with
    | true => some (.arr s rows)
    | false => none

def fillRows (rows : List (List AV)) : List (Nat × AV) → Option (List (List AV))
  | [] => some rows
  | (i, v) :: r => match nth rows i with
    | some row => match Nat.beq v.cells.length row.length with
      | true => fillRows (lset rows i v.cells) r
      | false => none
    | none => none

/-- The rows of a slice that is read: frozen or own. -/
inductive Rows where
  | ints (k : IntKind) (xs : List Int)
  | rows (l : List (List AV))
  | none

def srcV (hp : AHeap) (s : Nat) (y : AV) : Rows :=
  match y with
  | .emp => .rows []
  | .ri k xs => match Nat.beq s 1 with
    | true => .ints k xs
    | false => .none
  | .ro s' rows => match Nat.beq s' s with
    | true => .rows rows
    | false => .none
  | .sl b i n => match nth hp b with
    | some (some (.ia k xs)) => match Nat.beq s 1 with
      | true => .ints k ((xs.drop i).take n)
      | false => .none
    | some (some (.arr s' rows)) => match Nat.beq s' s with
      | true => .rows ((rows.drop i).take n)
      | false => .none
    | some none => match n with
      | 0 => .rows []
      | _ + 1 => .none
    | _ => .none
  | .slc b i n _ => match nth hp b with
    | some (some (.arr s' rows)) => match Nat.beq s' s with
      | true => .rows ((rows.drop i).take n)
      | false => .none
    | _ => .none
  | _ => .none

def binI (op : BinOp) (k : IntKind) (a b : Int) : Option (Bool × AV) :=
  match op with
  | .add => some (true, .int k (k.wrap (a + b)))
  | .sub => some (true, .int k (k.wrap (a - b)))
  | .mul => some (true, .int k (k.wrap (a * b)))
  | .quo => some (decide (b ≠ 0), .int k (k.wrap (a.tdiv b)))
  | .rem => some (decide (b ≠ 0), .int k (a.tmod b))
  | .and => some (true, .int k (k.wrap (BitVec.ofInt k.bits a &&& BitVec.ofInt k.bits b).toNat))
  | .or => some (true, .int k (k.wrap (BitVec.ofInt k.bits a ||| BitVec.ofInt k.bits b).toNat))
  | .xor => some (true, .int k (k.wrap (BitVec.ofInt k.bits a ^^^ BitVec.ofInt k.bits b).toNat))
  | .andNot => some (true, .int k (k.wrap (BitVec.ofInt k.bits a &&& ~~~BitVec.ofInt k.bits b).toNat))
  | .eql => some (true, .bool (a == b))
  | .neq => some (true, .bool (a != b))
  | .lss => some (true, .bool (a < b))
  | .leq => some (true, .bool (a ≤ b))
  | .gtr => some (true, .bool (a > b))
  | .geq => some (true, .bool (a ≥ b))
  | _ => none

def sameKind : IntKind → IntKind → Bool
  | .i8, .i8 | .i16, .i16 | .i32, .i32 | .i64, .i64 | .u8, .u8 | .u16, .u16 | .u32, .u32 | .u64, .u64 => true
  | _, _ => false

def binA (op : BinOp) : AV → AV → Option (Bool × AV)
  | .int k a, .int k' b => match op with
    | .shl => some (decide (0 ≤ b), .int k (k.wrap (a * 2 ^ (min b.toNat k.bits))))
    | .shr => some (decide (0 ≤ b), .int k (a.fdiv (2 ^ (min b.toNat k.bits))))
    | _ => match sameKind k k' with
      | true => binI op k a b
      | false => none
  | .str a, .str b => match op with
    | .add => some (decide (a.size + b.size ≤ 9223372036854775807), .str (a ++ b))
    | _ => none
  | _, _ => none

/-- A string's bytes as numbers. -/
def numsOf (t : ByteArray) : List Int := t.data.toList.map fun b => (b.toNat : Int)

/-- Two cells held against each other, by their kind: 0 bool, 1 number, 2 string; 3 a pointer, 4 a slice, against nil. -/
def eqFlat : Nat → AV → AV → Option Bool
  | 0, .bool a, .bool b => some (a == b)
  | 1, .int k a, .int k' b => match sameKind k k' with
    | true => some (a == b)
    | false => none
  | 2, .str a, .str b => some (a == b)
  | _, _, _ => none

/-- Is a pointer nil? -/
def eqPtr (x : AV) : AV → Option Bool
  | .pnil => match x with
    | .pnil => some true
    | .bp _ _ | .ep _ _ _ | .rp _ _ | .bt _ _ _ => some false
    | _ => none
  | _ => none

/-- Is a slice nil? -/
def eqSl (x : AV) : AV → Option Bool
  | .snil => match x with
    | .snil => some true
    | .semp | .emp | .sl _ _ _ => some false
    | .ri _ xs => match xs with
      | [] => none
      | _ :: _ => some false
    | .ro _ xs => match xs with
      | [] => none
      | _ :: _ => some false
    | _ => none
  | _ => none

/-- Is an interface's value nil? -/
def eqIf (x : AV) : AV → Option Bool
  | .inil => match x with
    | .inil => some true
    | .ifv => some false
    | _ => none
  | _ => none

def eqLeaf (k : Nat) (x y : AV) : Option Bool :=
  match k with
  | 5 => eqIf x y
  | 3 => eqPtr x y
  | 4 => eqSl x y
  | k => eqFlat k x y

def eqAll (xs ys : List AV) : List (Nat × Nat) → Option Bool
  | [] => some true
  | (o, k) :: r => match nth xs o, nth ys o with
    | some a, some b => match eqLeaf k a b with
      | some e => match eqAll xs ys r with
        | some q => some (e && q)
        | none => none
      | none => none
    | _, _ => none

def unA (op : UnOp) : AV → Option AV
  | .int k n => match op with
    | .neg => some (.int k (k.wrap (0 - n)))
    | _ => none
  | .bool b => match op with
    | .not => some (.bool (!b))
    | _ => none
  | _ => none

def slLen : AV → Option Nat
  | .snil => some 0
  | .semp => some 0
  | .emp => some 0
  | .sl _ _ n => some n
  | .ri _ xs => some xs.length
  | .ro _ rows => some rows.length
  | .len n => some n
  | .slc _ _ n _ => some n
  | _ => none

/-- A bound of a slice expression. -/
def bnd (tm : List (Nat × AV)) (o : Option Opd) (d : Int) : Option Int :=
  match o with
  | none => some d
  | some o => match ev tm o with
    | .int _ n => some n
    | _ => none

def ABlk.shape1 : ABlk → Nat
  | .box cs => cs.length
  | .ia _ _ => 1
  | .arr s _ => s
  | .mp _ => 3

def sliceC (hp : AHeap) (s b i c : Nat) (l r : Int) : Option AV :=
  match nth hp b with
  | some (some (.arr s' _)) => match Nat.beq s' s with
    | true => some (.slc b (i + l.toNat) (r.toNat - l.toNat) (c - l.toNat))
    | false => none
  | _ => none

def sliceV (hp : AHeap) (s : Nat) (x : AV) (l r : Int) : Option AV :=
  match x with
  | .sl b i _ => match nth hp b with
    | some (some blk) => match Nat.beq blk.shape1 s with
      | true => some (.sl b (i + l.toNat) (r.toNat - l.toNat))
      | false => none
    | _ => none
  | .ri k xs => match Nat.beq s 1 with
    | true => some (.ri k ((xs.drop l.toNat).take (r.toNat - l.toNat)))
    | false => none
  | .ro s' rows => match Nat.beq s' s with
    | true => some (.ro s' ((rows.drop l.toNat).take (r.toNat - l.toNat)))
    | false => none
  | .snil => some .snil
  | .semp => some .semp
  | _ => none

def clearA (hp : AHeap) (s : Nat) (z : List AV) (b i n : Nat) : Option (Bool × AV × Eff) :=
  match nth hp b with
  | some (some (.arr s' rows)) => match Nat.beq s' s && Nat.beq z.length s && z.all closed with
    | true => some (true, .tup [], .put b (.arr s' (rows.take i ++ List.replicate n z ++ rows.drop (i + n))))
    | false => none
  | _ => none

/-- A map's entry. -/
def mpGet (n : Int) : List (Int × AV) → Option AV
  | [] => none
  | (m, v) :: r => match decide (n = m) with
    | true => some v
    | false => mpGet n r

def mpSet (n : Int) (x : AV) : List (Int × AV) → List (Int × AV)
  | [] => [(n, x)]
  | (m, v) :: r => match decide (n = m) with
    | true => (m, x) :: r
    | false => (m, v) :: mpSet n x r

def mpDel (n : Int) : List (Int × AV) → List (Int × AV)
  | [] => []
  | (m, v) :: r => match decide (n = m) with
    | true => r
    | false => (m, v) :: mpDel n r

/-- What a map is asked for. -/
def mpAns (ok : Bool) (o : Option AV) (z : AV) : AV :=
  match o with
  | some v => match ok with
    | true => .tup [v, .bool true]
    | false => v
  | none => match ok with
    | true => .tup [z, .bool false]
    | false => z

/-- One operation that calls nothing: the condition, the value, the effect. -/
def aop (tm : List (Nat × AV)) (hp : AHeap) (hn : Nat) : AOp → Option (Bool × AV × Eff)
  | .mov x => some (true, ev tm x, .keep)
  | .pick c a b => match ev tm c with
    | .bool c => match c with
      | true => some (true, ev tm a, .keep)
      | false => some (true, ev tm b, .keep)
    | _ => none
  | .alloc z => some (true, .bp hn 0, .push (.box z))
  | .allocT T z => some (true, .bt hn T z.length, .push (.box z))
  | .box x => some (true, .bp hn 0, .push (.box (ev tm x).cells))
  | .build z parts => (fill z (parts.map fun (o, n, x) => (o, n, ev tm x))).map fun l => (true, .agg l, .keep)
  | .bslice s z len parts => match len, parts with
   | 0, [] => some (true, .semp, .keep)
   | len, parts => match fillRows (List.replicate len z) (parts.map fun (i, x) => (i, ev tm x)) with
    | some rows => match rows, z with
      | [], [.int k _] => some (true, .sl hn 0 len, .push (.ia k []))
      | rows, _ => match rowsBlk s rows with
        | some b => some (true, .sl hn 0 len, .push b)
        | none => none
    | none => none
  | .bfrz s z len parts => match fillRows (List.replicate len z) (parts.map fun (i, x) => (i, ev tm x)) with
    | some rows => match rowsBlk s rows with
      | some b => match b with
        | .ia k l => some (true, .ri k l, .keep)
        | .arr s rows => some (true, .ro s rows, .keep)
        | .box _ => none
        | .mp _ => none
      | none => none
    | none => none
  | .load1 a => match readAt hp (ev tm a) 1 with
    | some (c, [v]) => some (c, v, .keep)
    | _ => none
  | .loadN n a => match readAt hp (ev tm a) n with
    | some (c, l) => some (c, .agg l, .keep)
    | none => none
  | .store n a x => match Nat.beq (ev tm x).cells.length n with
    | true => match writeAt hp (ev tm a) (ev tm x).cells with
      | some (c, e) => some (c, .undef, e)
      | none => none
    | false => none
  | .nilc x => match ev tm x with
    | .bp b j => some (true, .bp b j, .keep)
    | .bt b T n => some (true, .bt b T n, .keep)
    | .ep b i j => some (true, .ep b i j, .keep)
    | .rp r j => some (true, .rp r j, .keep)
    | .fn f c => some (true, .fn f c, .keep)
    | _ => none
  | .bin op x y => (binA op (ev tm x) (ev tm y)).map fun (c, v) => (c, v, .keep)
  | .eq1 neg k x y => match eqLeaf k (ev tm x) (ev tm y) with
    | some b => match neg with
      | true => some (true, .bool (!b), .keep)
      | false => some (true, .bool b, .keep)
    | none => none
  | .eqv neg offs x y => match ev tm x, ev tm y with
    | .agg cs, .agg ds => match eqAll cs ds offs with
      | some b => match neg with
        | true => some (true, .bool (!b), .keep)
        | false => some (true, .bool b, .keep)
      | none => none
    | _, _ => none
  | .un op x => (unA op (ev tm x)).map fun v => (true, v, .keep)
  | .conv k x => match ev tm x with
    | .int _ n => some (true, .int k (k.wrap n), .keep)
    | _ => none
  | .mkfn f cap => some (true, .fn f (cap.map (ev tm)), .keep)
  | .mkslice bytes s z len cap => match ev tm len, ev tm cap with
    | .int .i64 n, .int .i64 m => match z with
      | [.int k x] => some (decide (0 ≤ n ∧ n = m ∧ (bytes + 1) * n ≤ 2 ^ 46), .sl hn 0 n.toNat, .push (.ia k (List.replicate n.toNat x)))
      | _ => match Nat.beq z.length s && z.all closed with
        | true => some (decide (0 ≤ n ∧ n = m ∧ (bytes + 1) * n ≤ 2 ^ 46), .sl hn 0 n.toNat, .push (.arr s (List.replicate n.toNat z)))
        | false => none
    | _, _ => none
  | .mkfrz bytes s z len cap => match ev tm len, ev tm cap with
    | .int .i64 n, .int .i64 m => match z with
      | [.int k x] => some (decide (0 ≤ n ∧ n = m ∧ (bytes + 1) * n ≤ 2 ^ 46), .ri k (List.replicate n.toNat x), .keep)
      | _ => match Nat.beq z.length s && z.all closed with
        | true => some (decide (0 ≤ n ∧ n = m ∧ (bytes + 1) * n ≤ 2 ^ 46), .ro s (List.replicate n.toNat z), .keep)
        | false => none
    | _, _ => none
  | .slice s x lo hi => match ev tm x with
    | .slc b i n c => match bnd tm lo 0, bnd tm hi n with
      | some l, some r => match sliceC hp s b i c l r with
        | some v => some (decide (0 ≤ l ∧ l ≤ r ∧ r ≤ c), v, .keep)
        | none => none
      | _, _ => none
    | x => match slLen x with
      | some n => match bnd tm lo 0, bnd tm hi n with
        | some l, some r => match sliceV hp s x l r with
          | some v => some (decide (0 ≤ l ∧ l ≤ r ∧ r ≤ n), v, .keep)
          | none => none
        | _, _ => none
      | none => none
  | .slice3 s x lo hi top => match ev tm x with
    | .slc _ _ _ c => match bnd tm lo 0, bnd tm hi 0, bnd tm top 0 with
      | some l, some r, some m => some (decide (0 ≤ l ∧ l ≤ r ∧ r ≤ m ∧ m ≤ c), .len (r.toNat - l.toNat), .keep)
      | _, _, _ => none
    | .ri k xs => match Nat.beq s 1 with
      | true => match bnd tm lo 0, bnd tm hi 0, bnd tm top 0 with
        | some l, some r, some m => some (decide (0 ≤ l ∧ l ≤ r ∧ r ≤ m ∧ m ≤ xs.length), .ri k ((xs.drop l.toNat).take (r.toNat - l.toNat)), .keep)
        | _, _, _ => none
      | false => none
    | _ => none
  | .capS x => match ev tm x with
    | .slc _ _ _ c => some (true, .int .i64 c, .keep)
    | _ => none
  | .clear s z x => match ev tm x with
    | .slc b i n _ => clearA hp s z b i n
    | .sl b i n => clearA hp s z b i n
    | _ => none
  | .sliceStr x lo hi => match ev tm x with
    | .str b => match bnd tm lo 0, bnd tm hi b.size with
      | some l, some r => some (decide (0 ≤ l ∧ l ≤ r ∧ r ≤ b.size), .str (b.extract l.toNat r.toNat), .keep)
      | _, _ => none
    | _ => none
  | .fld off a => match ev tm a with
    | .bp b j => some (true, .bp b (j + off), .keep)
    | .bt b _ _ => some (true, .bp b off, .keep)
    | .ep b i j => some (true, .ep b i (j + off), .keep)
    | .rp r j => some (true, .rp r (j + off), .keep)
    | _ => none
  | .field off n one x => match ev tm x with
    | .agg cs => match one, part cs off n with
      | true, some [v] => some (true, v, .keep)
      | false, some l => some (true, .agg l, .keep)
      | _, _ => none
    | _ => none
  | .idxA len s a i => match ev tm i with
    | .int _ i => match ev tm a with
      | .bp b j => some (decide (0 ≤ i ∧ i < len), .bp b (j + i.toNat * s), .keep)
      | .ep b r j => some (decide (0 ≤ i ∧ i < len), .ep b r (j + i.toNat * s), .keep)
      | .rp r j => some (decide (0 ≤ i ∧ i < len), .rp r (j + i.toNat * s), .keep)
      | _ => none
    | _ => none
  | .idxS s x i => match ev tm i with
    | .int _ i => match ev tm x with
      | .sl b r n => match nth hp b with
        | some (some (.ia _ _)) => match Nat.beq s 1 with
          | true => some (decide (0 ≤ i ∧ i < n), .ep b (r + i.toNat) 0, .keep)
          | false => none
        | some (some (.arr s' _)) => match Nat.beq s s' with
          | true => some (decide (0 ≤ i ∧ i < n), .ep b (r + i.toNat) 0, .keep)
          | false => none
        | _ => none
      | .ri k xs => match Nat.beq s 1 with
        | true => some (decide (0 ≤ i ∧ i < xs.length), .rp [.int k (xs.getD i.toNat 0)] 0, .keep)
        | false => none
      | .ro s' rows => match Nat.beq s s' with
        | true => match nth rows i.toNat with
          | some row => some (decide (0 ≤ i), .rp row 0, .keep)
          | none => none
        | false => none
      | _ => none
    | _ => none
  | .indexA len s one x i => match ev tm x, ev tm i with
    | .agg cs, .int _ i => match one, part cs (i.toNat * s) s with
      | true, some [v] => some (decide (0 ≤ i ∧ i < len), v, .keep)
      | false, some l => some (decide (0 ≤ i ∧ i < len), .agg l, .keep)
      | _, _ => none
    | _, _ => none
  | .indexStr x i => match ev tm x, ev tm i with
    | .str s, .int _ i => some (decide (0 ≤ i ∧ i < s.size), .int .u8 (s.data.getD i.toNat 0).toNat, .keep)
    | _, _ => none
  | .ext t i => match ev tm t with
    | .tup vs => match nth vs i with
      | some v => some (true, v, .keep)
      | none => none
    | _ => none
  | .lenS x => match ev tm x with
    | .str s => some (true, .int .i64 s.size, .keep)
    | _ => none
  | .lenL x => match slLen (ev tm x) with
    | some n => some (true, .int .i64 n, .keep)
    | none => none
  | .append bytes s x y => match ev tm x with
    | .semp => match ev tm y with
      | .snil => some (true, .semp, .keep)
      | .semp => some (true, .semp, .keep)
      | y => match srcV hp s y with
        | .ints k ys => match ys with
          | [] => some (true, .semp, .keep)
          | y :: ys => some (decide ((bytes + 1) * (ys.length + 1) ≤ 2 ^ 46), .sl hn 0 (ys.length + 1), .push (.ia k (y :: ys)))
        | .rows ys => match ys with
          | [] => some (true, .semp, .keep)
          | y :: ys => some (decide ((bytes + 1) * (ys.length + 1) ≤ 2 ^ 46) && (y :: ys).all (fun r => r.all closed), .sl hn 0 (ys.length + 1), .push (.arr s (y :: ys)))
        | .none => none
    | .snil => match ev tm y with
      | .snil => some (true, .snil, .keep)
      | .semp => some (true, .snil, .keep)
      | y => match srcV hp s y with
        | .ints k ys => match ys with
          | [] => some (true, .snil, .keep)
          | y :: ys => some (decide ((bytes + 1) * (ys.length + 1) ≤ 2 ^ 46), .sl hn 0 (ys.length + 1), .push (.ia k (y :: ys)))
        | .rows ys => match ys with
          | [] => some (true, .snil, .keep)
          | y :: ys => some (decide ((bytes + 1) * (ys.length + 1) ≤ 2 ^ 46) && (y :: ys).all (fun r => r.all closed), .sl hn 0 (ys.length + 1), .push (.arr s (y :: ys)))
        | .none => none
    | .sl b i n => match ev tm y with
      | .snil => some (true, .sl b i n, .keep)
      | .semp => some (true, .sl b i n, .keep)
      | y => match nth hp b, srcV hp s y with
        | some (some (.ia k' xs)), .ints k ys => match sameKind k' k with
          | true => some (decide (i + n = xs.length ∧ (bytes + 1) * (n + ys.length) ≤ 2 ^ 46), .sl hn 0 (n + ys.length), .move b (.ia k' (xs.drop i ++ ys)))
          | false => none
        | some (some (.arr s' rows)), .rows ys => match Nat.beq s' s with
          | true => some (decide (i + n = rows.length ∧ (bytes + 1) * (n + ys.length) ≤ 2 ^ 46) && ys.all (fun r => r.all closed), .sl hn 0 (n + ys.length), .move b (.arr s' (rows.drop i ++ ys)))
          | false => none
        | _, _ => none
    | .slc b i n c => match nth hp b, srcV hp s (ev tm y) with
      | some (some (.arr s' rows)), .rows ys => match Nat.beq s' s with
        | true => match Nat.ble (n + ys.length) c with
          | true => some (ys.all (fun r => r.all closed), .slc b i (n + ys.length) c, .put b (.arr s' (rows.take (i + n) ++ ys ++ rows.drop (i + n + ys.length))))
          | false => some (decide ((bytes + 1) * (n + ys.length) ≤ 2 ^ 46), .sl hn 0 (n + ys.length), .push (.arr s' ((rows.drop i).take n ++ ys)))
        | false => none
      | _, _ => none
    | _ => none
  | .appendZ bytes z x n => match ev tm n with
    | .int _ m => match z with
      | [.int k z] => match ev tm x with
        | .sl b i l => match nth hp b with
          | some (some (.ia k' xs)) => match sameKind k' k with
            | true => match m.toNat with
              | 0 => some (decide (0 ≤ m), .sl b i l, .keep)
              | q + 1 => some (decide (0 ≤ m ∧ i + l = xs.length ∧ (bytes + 1) * (l + (q + 1)) ≤ 2 ^ 46), .sl hn 0 (l + (q + 1)), .move b (.ia k' (xs.drop i ++ List.replicate (q + 1) z)))
            | false => none
          | _ => none
        | .snil => match m.toNat with
          | 0 => some (decide (0 ≤ m), .snil, .keep)
          | q + 1 => some (decide (0 ≤ m ∧ (bytes + 1) * (q + 1) ≤ 2 ^ 46), .sl hn 0 (q + 1), .push (.ia k (List.replicate (q + 1) z)))
        | .semp => match m.toNat with
          | 0 => some (decide (0 ≤ m), .semp, .keep)
          | q + 1 => some (decide (0 ≤ m ∧ (bytes + 1) * (q + 1) ≤ 2 ^ 46), .sl hn 0 (q + 1), .push (.ia k (List.replicate (q + 1) z)))
        | _ => none
      | z => match ev tm x with
        | .slc b i n c => match nth hp b with
          | some (some (.arr s' rows)) => match Nat.ble (n + m.toNat) c with
            | true => none
            | false => some (decide (0 ≤ m ∧ s' = z.length ∧ (bytes + 1) * (n + m.toNat) ≤ 2 ^ 46), .sl hn 0 (n + m.toNat), .push (.arr s' ((rows.drop i).take n ++ List.replicate m.toNat z)))
          | _ => none
        | _ => none
    | _ => none
  | .appendS bytes x y => match ev tm y with
    | .str t => match ev tm x with
      | .sl b i l => match nth hp b with
        | some (some (.ia k' xs)) => match sameKind k' .u8 with
          | true => match numsOf t with
            | [] => some (true, .sl b i l, .keep)
            | q :: qs => some (decide (i + l = xs.length ∧ (bytes + 1) * (l + (qs.length + 1)) ≤ 2 ^ 46), .sl hn 0 (l + (qs.length + 1)), .move b (.ia k' (xs.drop i ++ q :: qs)))
          | false => none
        | _ => none
      | .snil => match numsOf t with
        | [] => some (true, .snil, .keep)
        | q :: qs => some (decide ((bytes + 1) * (qs.length + 1) ≤ 2 ^ 46), .sl hn 0 (qs.length + 1), .push (.ia .u8 (q :: qs)))
      | .semp => match numsOf t with
        | [] => some (true, .semp, .keep)
        | q :: qs => some (decide ((bytes + 1) * (qs.length + 1) ≤ 2 ^ 46), .sl hn 0 (qs.length + 1), .push (.ia .u8 (q :: qs)))
      | _ => none
    | _ => none
  | .strB x => match ev tm x with
    | .snil => some (true, .str (strOfNums []), .keep)
    | .semp => some (true, .str (strOfNums []), .keep)
    | y => match srcV hp 1 y with
      | .ints k xs => match sameKind k .u8 with
        | true => some (true, .str (strOfNums xs), .keep)
        | false => none
      | .rows xs => match xs with
        | [] => some (true, .str (strOfNums []), .keep)
        | _ :: _ => none
      | .none => none
  | .bytesS x => match ev tm x with
    | .str s => some (true, .ri .u8 (numsOf s), .keep)
    | _ => none
  | .markS x => match ev tm x with
    | .sl b i n => match nth hp b with
      | some (some (.ia k xs)) => match sameKind k .u8 with
        | true => some (true, .ri .u8 ((xs.drop i).take n), .kill b)
        | false => none
      | _ => none
    | _ => none
  | .copy s x y => match ev tm x with
    | .sl b i n => match nth hp b with
      | some (some (.ia k xs)) => match srcV hp s (ev tm y) with
        | .ints k' ys => match sameKind k k' with
          | true => some (true, .int .i64 (min ys.length n : Nat), .put b (.ia k (xs.take i ++ ys.take n ++ xs.drop (i + min ys.length n))))
          | false => none
        | _ => none
      | some (some (.arr s' xs)) => match srcV hp s (ev tm y) with
        | .rows ys => match Nat.beq s' s with
          | true => some (ys.all (fun r => r.all closed), .int .i64 (min ys.length n : Nat), .put b (.arr s' (xs.take i ++ ys.take n ++ xs.drop (i + min ys.length n))))
          | false => none
        | _ => none
      | _ => none
    | .slc b i n _ => match nth hp b with
      | some (some (.arr s' xs)) => match srcV hp s (ev tm y) with
        | .rows ys => match Nat.beq s' s with
          | true => some ((ys.take n).all (fun r => r.all closed), .int .i64 (min ys.length n : Nat), .put b (.arr s' (xs.take i ++ ys.take n ++ xs.drop (i + min ys.length n))))
          | false => none
        | _ => none
      | _ => none
    | _ => none
  | .mx x y => match ev tm x, ev tm y with
    | .int k a, .int _ b => some (true, .int k (if b > a then b else a), .keep)
    | _, _ => none
  | .mn x y => match ev tm x, ev tm y with
    | .int k a, .int _ b => some (true, .int k (if b < a then b else a), .keep)
    | _, _ => none
  | .mkmap => some (true, .map hn, .push (.mp []))
  | .mlook z ok x i => match ev tm x, ev tm i with
    | .map b, .int .i64 n => match nth hp b with
      | some (some (.mp es)) => some (true, mpAns ok (mpGet n es) z, .keep)
      | _ => none
    | _, _ => none
  | .mlen x => match ev tm x with
    | .map b => match nth hp b with
      | some (some (.mp es)) => some (true, .int .i64 es.length, .keep)
      | _ => none
    | _ => none
  | .mdel x i => match ev tm x, ev tm i with
    | .map b, .int .i64 n => match nth hp b with
      | some (some (.mp es)) => some (true, .tup [], .put b (.mp (mpDel n es)))
      | _ => none
    | _, _ => none
  | .mset x i v => match ev tm x, ev tm i with
    | .map b, .int .i64 n => match nth hp b with
      | some (some (.mp es)) => match closed1 (ev tm v) with
        | true => some (true, .undef, .put b (.mp (mpSet n (ev tm v) es)))
        | false => none
      | _ => none
    | _, _ => none
  | .call .. | .callv .. => none

/-! Values and heaps by their heads: for a reckoning that leaves no suspended terms behind. -/

def f0 (x : AV) (K : AV → Prop) : Prop :=
  match x with
  | .int k n => K (.int k n)
  | .bool b => K (.bool b)
  | .str s => K (.str s)
  | .pnil => K .pnil
  | .snil => K .snil
  | .semp => K .semp
  | .emp => K .emp
  | .fnil => K .fnil
  | .inil => K .inil
  | .undef => K .undef
  | .bp b j => K (.bp b j)
  | .ep b i j => K (.ep b i j)
  | .rp r j => K (.rp r j)
  | .sl b i n => K (.sl b i n)
  | .ri k xs => K (.ri k xs)
  | .ro s rows => K (.ro s rows)
  | .agg cs => K (.agg cs)
  | .tup vs => K (.tup vs)
  | .fn f c => K (.fn f c)
  | .yld l => K (.yld l)
  | .gh l r o => K (.gh l r o)
  | .len n => K (.len n)
  | .slc b i n c => K (.slc b i n c)
  | .bt b T n => K (.bt b T n)
  | .ifv => K .ifv
  | .mnil => K .mnil
  | .map b => K (.map b)

def fL (f : AV → (AV → Prop) → Prop) : List AV → (List AV → Prop) → Prop
  | [], K => K []
  | x :: xs, K => f x fun x' => fL f xs fun xs' => K (x' :: xs')

def f1 (x : AV) (K : AV → Prop) : Prop :=
  match x with
  | .agg cs => fL f0 cs fun cs' => K (.agg cs')
  | .rp r j => fL f0 r fun r' => K (.rp r' j)
  | .fn f c => fL f0 c fun c' => K (.fn f c')
  | x => f0 x K

def f2 (x : AV) (K : AV → Prop) : Prop :=
  match x with
  | .tup vs => fL f1 vs fun vs' => K (.tup vs')
  | x => f1 x K

def fB (b : ABlk) (K : ABlk → Prop) : Prop :=
  match b with
  | .box cs => fL f0 cs fun cs' => K (.box cs')
  | .ia k xs => K (.ia k xs)
  | .arr s rows => K (.arr s rows)
  | .mp es => K (.mp es)

def hset : AHeap → Nat → Option ABlk → (AHeap → Prop) → Prop
  | [], _, _, K => K []
  | _ :: xs, 0, b, K => K (b :: xs)
  | x :: xs, n + 1, b, K => hset xs n b fun xs' => K (x :: xs')

def hpush : AHeap → Option ABlk → (AHeap → Prop) → Prop
  | [], b, K => K [b]
  | x :: xs, b, K => hpush xs b fun xs' => K (x :: xs')

def Eff.go (e : Eff) (hp : AHeap) (hn : Nat) (K : AHeap → Nat → Prop) : Prop :=
  match e with
  | .keep => K hp hn
  | .push b => fB b fun b => hpush hp (some b) fun h => K h (hn + 1)
  | .put k b => fB b fun b => hset hp k (some b) fun h => K h hn
  | .move k b => fB b fun b => hset hp k none fun h => hpush h (some b) fun h => K h (hn + 1)
  | .kill k => hset hp k none fun h => K h hn

def Eff.app (e : Eff) (hp : AHeap) : AHeap :=
  match e with
  | .keep => hp
  | .push b => hp ++ [some b]
  | .put k b => lset hp k (some b)
  | .move k b => lset hp k none ++ [some b]
  | .kill k => lset hp k none

def putD (dst : Option Nat) (v : AV) (tm : List (Nat × AV)) : List (Nat × AV) :=
  match dst with
  | some d => (d, v) :: tm
  | none => tm

/-- A condition that must hold. -/
def need (c : Bool) (K : Prop) : Prop :=
  match c with
  | true => K
  | false => False

inductive AExit where
  | normal
  | exit (id : Nat)
  | ret

/-! ### What isn't needed any more is dropped, what is left gets new numbers -/

def idx : List Nat → Nat → Option Nat
  | [], _ => none
  | k :: ks, b => match Nat.beq k b with
    | true => some 0
    | false => (idx ks b).map (· + 1)

/-- A block's new number: the first n0 stay. -/
def newNo (n0 : Nat) (keep : List Nat) (b : Nat) : Option Nat :=
  match Nat.ble n0 b with
  | true => (idx keep b).map (n0 + ·)
  | false => some b

/-- Those that are frozen, with what they hold. -/
def fzOf : List (Nat × ABlk) → Nat → Option ABlk
  | [], _ => none
  | (k, b) :: r, n => match Nat.beq k n with
    | true => some b
    | false => fzOf r n

def ren0 (σ : Nat → Option Nat) (φ : Nat → Option ABlk) (x : AV) : AV :=
  match x with
  | .bp b j => match σ b with
    | some b' => .bp b' j
    | none => match φ b with
      | some (.box cs) => .rp cs j
      | _ => .undef
  | .ep b i j => match σ b with
    | some b' => .ep b' i j
    | none => .undef
  | .sl b i n => match σ b with
    | some b' => .sl b' i n
    | none => match φ b with
      | some (.ia k xs) => .ri k ((xs.drop i).take n)
      | some (.arr s rows) => .ro s ((rows.drop i).take n)
      | _ => .len n
  | .slc b i n c => match σ b with
    | some b' => .slc b' i n c
    | none => .len n
  | .bt b T n => match σ b with
    | some b' => .bt b' T n
    | none => match φ b with
      | some (.box cs) => .rp cs 0
      | _ => .undef
  | .map b => match σ b with
    | some b' => .map b'
    | none => .undef
  | .agg _ | .tup _ | .fn _ _ => .undef
  | x => x

def ren1 (σ : Nat → Option Nat) (φ : Nat → Option ABlk) (x : AV) : AV :=
  match x with
  | .agg cs => .agg (cs.map (ren0 σ φ))
  | .fn f cs => .fn f (cs.map (ren0 σ φ))
  | x => ren0 σ φ x

def ren2 (σ : Nat → Option Nat) (φ : Nat → Option ABlk) (x : AV) : AV :=
  match x with
  | .tup cs => .tup (cs.map (ren1 σ φ))
  | x => ren1 σ φ x

def renB (σ : Nat → Option Nat) (φ : Nat → Option ABlk) (b : ABlk) : ABlk :=
  match b with
  | .box cs => .box (cs.map (ren1 σ φ))
  | b => b

/-- What frozen blocks hold: each sees those that stand ahead of it in the list. -/
def fzAll (h : AHeap) : List Nat → List (Nat × ABlk) → List (Nat × ABlk)
  | [], acc => acc
  | k :: ks, acc => match nth h k with
    | some (some (.box cs)) => fzAll h ks ((k, .box (cs.map (ren0 (fun _ => none) (fzOf acc)))) :: acc)
    | some (some (.mp _)) => fzAll h ks acc
    | some (some b) => fzAll h ks ((k, b) :: acc)
    | _ => fzAll h ks acc

def gcH (n0 : Nat) (keep fz : List Nat) (h : AHeap) : AHeap :=
  (h.take n0).map (·.map (renB (newNo n0 keep) (fzOf (fzAll h fz [])))) ++ keep.map fun k => match nth h k with
    | some (some b) => some (renB (newNo n0 keep) (fzOf (fzAll h fz [])) b)
    | _ => none

/-- The state with these temporaries and these blocks alone; some are frozen. -/
def St.norm (live keep fz : List Nat) (st : St) : St :=
  ⟨live.map fun t => (t, ren2 (newNo st.n0 keep) (fzOf (fzAll st.hp fz [])) (look st.tm t)), gcH st.n0 keep fz st.hp, st.n0 + keep.length, st.n0⟩

def okKeep (n0 hn : Nat) : List Nat → Bool
  | [] => true
  | k :: ks => Nat.ble n0 k && Nat.blt k hn && !(ks.any (Nat.beq k)) && okKeep n0 hn ks

/-- The places of a prefix. -/
structure ShpExt (S0 S : Shp) : Prop where
  rho : ∀ (k : Nat) p, S0.ρ[k]? = some p → S.ρ[k]? = some p
  sh : ∀ (k : Nat) p, k < S0.sh.length → S.sh[k]? = some (some p) → S0.sh[k]? = some (some p)
  rlen : S0.ρ.length = S0.sh.length

/-- A cell's value as the callee sees it. -/
def view0 (hp : AHeap) (own bor : List Nat) (x : AV) : Option AV :=
  match x with
  | .bp b j => match idx own b with
    | some b' => some (.bp b' j)
    | none => match bor.any (Nat.beq b) with
      | true => match nth hp b with
        | some (some (.box cs)) => match cs.all closedU with
          | true => some (.rp cs j)
          | false => none
        | _ => none
      | false => none
  | .ep b i j => match idx own b with | some b' => some (.ep b' i j) | none => none
  | .bt b T n => match idx own b with | some b' => some (.bt b' T n) | none => none
  | .map b => match idx own b with | some b' => some (.map b') | none => none
  | .sl b i n => match idx own b with
    | some b' => some (.sl b' i n)
    | none => match bor.any (Nat.beq b) with
      | true => match nth hp b with
        | some (some (.ia k xs)) => some (.ri k ((xs.drop i).take n))
        | some (some (.arr s rows)) => some (.ro s ((rows.drop i).take n))
        | _ => none
      | false => none
  | .agg _ | .tup _ | .fn _ _ | .gh .. | .slc .. => none
  | x => some x

def mapO (f : AV → Option AV) : List AV → Option (List AV)
  | [] => some []
  | x :: xs => match f x with
    | some y => match mapO f xs with
      | some ys => some (y :: ys)
      | none => none
    | none => none

def view1 (hp : AHeap) (own bor : List Nat) (x : AV) : Option AV :=
  match x with
  | .agg cs => match mapO (view0 hp own bor) cs with | some cs => some (.agg cs) | none => none
  | .fn f cs => match mapO (view0 hp own bor) cs with | some cs => some (.fn f cs) | none => none
  | x => view0 hp own bor x

def viewH (hp : AHeap) (own : List Nat) : List Nat → Option AHeap
  | [] => some []
  | k :: ks => match nth hp k with
    | some (some (.box cs)) => match mapO (view1 hp own []) cs with
      | some cs => match viewH hp own ks with
        | some h => some (some (.box cs) :: h)
        | none => none
      | none => none
    | some (some b) => match viewH hp own ks with
      | some h => some (some b :: h)
      | none => none
    | _ => none

def setAll : AHeap → List Nat → AHeap → AHeap
  | hp, k :: ks, b :: bs => setAll (lset hp k b) ks bs
  | hp, _, _ => hp

/-- A function that may be entered. -/
def Enters (P : Program) (f : FuncId) : Prop := ∃ fn, P.funcs[f]? = some fn ∧ fn.body.isSome = true ∧ fn.name ≠ "runtime.NumGoroutine"

/-- Tables of the library's that contracts may lean on. -/
def tabs : List (String × Array Value) := [("internal/strconv.uint64pow10", (Lib.pow10Tab.map fun z => Value.int .u64 z).toArray)]

/-- An error, or none. -/
def isErr (v : Value) : Prop := v = .nilIface ∨ ∃ te pe, v = .iface te pe

/-- Variables of the library's that contracts may lean on, and what is known of them. -/
def kinds : List (String × (Value → Prop)) := [("internal/bytealg.MaxLen", fun v => ∃ m, v = .int .i64 m), ("strconv.ErrSyntax", isErr), ("strconv.ErrRange", isErr)]

/-- Those of the tables and variables that the program has stand where they are, and stay. -/
structure TabW (P : Program) (F : Nat → Prop) (w : World) : Prop where
  tab : ∀ x ∈ tabs, ∀ g, P.globalNamed x.1 = some g → F g ∧ w.var? P x.1 = some x.2
  kind : ∀ x ∈ kinds, ∀ g, P.globalNamed x.1 = some g → F g ∧ ∃ v, w.cell? ⟨g, 0, none⟩ = some v ∧ x.2 v

theorem TabW.lt {P : Program} {w : World} {x : String × Array Value} {g : Nat} (hg : P.globalNamed x.1 = some g) (hv : w.var? P x.1 = some x.2) : g < w.heap.size := by
  unfold World.var? at hv
  rw [hg] at hv
  simp only [Option.bind_some] at hv
  split at hv
  · rename_i h
    exact (Array.getElem?_eq_some_iff.1 h).1
  · cases hv

theorem cell_lt {w : World} {g o : Nat} {v : Value} (h : w.cell? ⟨g, o, none⟩ = some v) : g < w.heap.size := by
  unfold World.cell? at h
  split at h
  · rename_i hh
    exact (Array.getElem?_eq_some_iff.1 hh).1
  · cases h

theorem TabW.mono {P : Program} {F F' : Nat → Prop} {w w' : World} (h : TabW P F w) (hF : ∀ b, F b → F' b) (hw : ∀ b, b < w.heap.size → F b → w'.heap[b]? = w.heap[b]?) : TabW P F' w' := by
  refine ⟨fun x hx g hg => ?_, fun x hx g hg => ?_⟩
  · obtain ⟨h1, h2⟩ := h.tab x hx g hg
    refine ⟨hF g h1, ?_⟩
    have hlt := TabW.lt hg h2
    unfold World.var? at h2 ⊢
    rw [hg] at h2 ⊢
    simp only [Option.bind_some] at h2 ⊢
    rw [hw g hlt h1]
    exact h2
  · obtain ⟨h1, v, h2, h3⟩ := h.kind x hx g hg
    refine ⟨hF g h1, v, ?_, h3⟩
    have hlt := cell_lt h2
    unfold World.cell? at h2 ⊢
    rw [show w'.heap[(⟨g, 0, none⟩ : Addr).block]? = w.heap[(⟨g, 0, none⟩ : Addr).block]? from hw g hlt h1]
    exact h2

/-- A call of a function that is entered, or that the model answers by itself. -/
def Does (P : Program) (f : FuncId) (cs : Array Value) (w : World) (Q : Ending → World → Prop) : Prop :=
  (Enters P f ∧ Calls P f cs w Q) ∨ ∃ v w', (callFunc f cs).run P w = .ok (.value v) w' ∧ Q (.returned v) w'

theorem Does.mono {P : Program} {f : FuncId} {cs : Array Value} {w : World} {Q Q' : Ending → World → Prop} (h : Does P f cs w Q) (hQ : ∀ e w', Q e w' → Q' e w') : Does P f cs w Q' :=
  h.imp (fun ⟨h1, h2⟩ => ⟨h1, h2.mono hQ⟩) fun ⟨v, w', h1, h2⟩ => ⟨v, w', h1, hQ _ _ h2⟩

/-- **WHAT A CALL COMES TO**: from every world that the abstract heap and the arguments stand for the call returns, and what it returns and leaves stand for what R says. -/
def CallsA (P : Program) (f : FuncId) (args : List AV) (h : AHeap) (R : AV → AHeap → Prop) : Prop :=
  ∀ (E : Env) (cs : Array Value), HRel E h → TabW P E.F E.w → args.length = cs.size → (∀ (i : Nat) x v, args[i]? = some x → cs[i]? = some v → E.R x v) →
    Does P f cs E.w fun e w' => ∃ v r h' E', e = .returned v ∧ R r h' ∧ E'.w = w' ∧ Ext E E' ∧ HRel E' h' ∧ E'.R r v

/-- Where what an iterator has to do yet is kept. -/
def G : Nat := 999999

abbrev Gh := Option (Nat × Bool × List (List AV))

def ghostOf (tm : List (Nat × AV)) : Gh :=
  match look tm G with
  | .gh l r o => some (l, r, o)
  | _ => none

/-- Nothing changed but the blocks of a set. -/
structure WX (own : Nat → Prop) (w w' : World) : Prop where
  os : w'.os = w.os
  tape : w'.tape = w.tape
  output : w'.output = w.output
  size : w.heap.size ≤ w'.heap.size
  same : ∀ b : Nat, b < w.heap.size → ¬ own b → w'.heap[b]? = w.heap[b]?
  cap : ∀ (b : Nat) c e f, w.heap[b]? = some (Obj.cells c e f) → ∃ c' e' f', w'.heap[b]? = some (Obj.cells c' e' f') ∧ c'.size = c.size ∧ e' = e
  mcap : ∀ (b : Nat) es k, w.heap[b]? = some (Obj.map es k) → ∃ es' k', w'.heap[b]? = some (Obj.map es' k')

/-- What holds at each moment, by what may change and what may not. -/
abbrev KP := Gh → (Nat → Prop) → (Nat → Prop) → World → Prop

structure KStep (K : KP) : Prop where
  step : ∀ {g O F w O' F' w'}, K g O F w → WX (fun b => O b ∧ ¬ F b) w w' → (∀ b, O' b → O b ∨ (w.heap.size ≤ b ∧ b < w'.heap.size)) → (∀ b, F b → F' b) → (∀ b, F' b → F b ∨ O b ∨ (w.heap.size ≤ b ∧ b < w'.heap.size)) → K g O' F' w'
  forget : ∀ {g O F w}, K g O F w → K none O F w

/-- What a round does to its iterator's blocks: nothing. -/
structure YX (O F : Nat → Prop) (w w' : World) : Prop where
  os : w'.os = w.os
  tape : w'.tape = w.tape
  output : w'.output = w.output
  size : w.heap.size ≤ w'.heap.size
  same : ∀ b : Nat, b < w.heap.size → O b ∨ F b → w'.heap[b]? = w.heap[b]?
  cap : ∀ (b : Nat) c e f, w.heap[b]? = some (Obj.cells c e f) → ∃ c' e' f', w'.heap[b]? = some (Obj.cells c' e' f') ∧ c'.size = c.size ∧ e' = e
  mcap : ∀ (b : Nat) es k, w.heap[b]? = some (Obj.map es k) → ∃ es' k', w'.heap[b]? = some (Obj.map es' k')

def Yields (P : Program) (K : KP) : Prop := ∀ (l : Nat) (x : List AV) (rest : List (List AV)) (O F : Nat → Prop) (w : World) (vs : Array Value), K (some (l, true, x :: rest)) O F w → (∀ b, F b → b < w.heap.size) →
  x.length = vs.size → (∀ (i : Nat) c v, x[i]? = some c → vs[i]? = some v → Go.AL.Rel w F .nil c v) →
  ∀ n, YieldAt Fence.wide n P l vs w fun e w' => ∃ b, e = .returned (.bool b) ∧ K (some (l, b, rest)) O F w' ∧ YX O F w w'

/-- **AN ITERATOR**: with what it has captured it hands over the lists of xs, one by one, unless it is stopped. -/
def IterA (P : Program) (f : FuncId) (cap : List AV) (xs : List (List AV)) : Prop :=
  Enters P f ∧ ∀ (l : Nat) (K : KP), KStep K → Yields P K → (∀ g O F w, K g O F w → TabW P F w) → ∀ (F : Nat → Prop) (w : World) (cs : Array Value), (∀ b, F b → b < w.heap.size) → cap.length = cs.size →
    (∀ (i : Nat) x v, cap[i]? = some x → cs[i]? = some v → Go.AL.Rel w F .nil x v) → K (some (l, true, xs)) (fun _ => False) F w →
    Calls P f (#[.func (.yield l) #[] #[]] ++ cs) w fun e w' => (∃ v, e = .returned v) ∧ ∃ O F, K (some (l, true, [])) O F w' ∨ ∃ r, K (some (l, false, r)) O F w'

/-- **AN ITERATOR THAT IS LENT BLOCKS**: it hands over the lists of xs, one by one, unless it is stopped; what it leaves of the blocks, if it isn't. -/
def IterL (P : Program) (f : FuncId) (cap : List AV) (h : AHeap) (xs : List (List AV)) (h' : AHeap) : Prop :=
  Enters P f ∧ ∀ (l : Nat) (K : KP), KStep K → Yields P K → (∀ g O F w, K g O F w → TabW P F w) → ∀ (E : Env) (cs : Array Value), HRel E h → cap.length = cs.size →
    (∀ (i : Nat) x v, cap[i]? = some x → cs[i]? = some v → E.R x v) → K (some (l, true, xs)) E.S.own E.F E.w →
    Calls P f (#[.func (.yield l) #[] #[]] ++ cs) E.w fun e w' => (∃ v, e = .returned v) ∧
      ((∃ (O : Nat → Prop) (E' : Env), E'.w = w' ∧ K (some (l, true, [])) O E'.F w' ∧ HRel E' h' ∧ ShpExt E.S E'.S ∧ ∀ b, E'.S.own b → O b) ∨ ∃ O F r, K (some (l, false, r)) O F w')

/-- Blocks that are lent are dead meanwhile. -/
def killH (own : List Nat) (hp : AHeap) : AHeap := setAll hp own (own.map fun _ => none)

/-- Cells that don't lean on a lent block's shape. -/
def clear0 (own : List Nat) : AV → Bool
  | .ep b _ _ => !own.any (Nat.beq b)
  | .sl b _ _ => !own.any (Nat.beq b)
  | .slc b _ _ _ => !own.any (Nat.beq b)
  | .agg _ | .tup _ | .fn _ _ => false
  | _ => true
def clearH (own : List Nat) (hp : AHeap) : Bool := hp.all fun b => match b with | some (.box cs) => cs.all (clear0 own) | _ => true

/-- Two ways. -/
def ifB (b : Bool) (A B : Prop) : Prop :=
  match b with
  | true => A
  | false => B

/-- A temporary is given a value, then what is next. -/
def putK (dst : Option Nat) (v : AV) (tm : List (Nat × AV)) (K : List (Nat × AV) → Prop) : Prop :=
  match dst with
  | some d => K ((d, v) :: tm)
  | none => K tm

/-- A call of yield: what comes next of the list; two ways go on. -/
def yieldA (l : Nat) (args : List AV) (dst : Option Nat) (tm : List (Nat × AV)) (K : List (Nat × AV) → Prop) : Prop :=
  match look tm G with
  | .gh l' r (x :: rest) => (l' = l ∧ r = true ∧ args = x ∧ x.all closed1 = true) ∧ putK dst (.bool true) ((G, .gh l true rest) :: tm) K ∧ putK dst (.bool false) ((G, .gh l false rest) :: tm) K
  | _ => False

/-- One operation, then what is next. -/
def stepA (P : Program) (op : AOp) (dst : Option Nat) (tm : List (Nat × AV)) (hp : AHeap) (hn n0 : Nat) (next : St → Prop) : Prop :=
  match op with
  | .call f args => CallsA P f (args.map (ev tm)) hp fun r h' => putK dst r tm fun tm => next ⟨tm, h', h'.length, n0⟩
  | .callv f args => match ev tm f with
    | .fn f cap => CallsA P f (args.map (ev tm) ++ cap) hp fun r h' => putK dst r tm fun tm => next ⟨tm, h', h'.length, n0⟩
    | .yld l => yieldA l (args.map (ev tm)) dst tm fun tm => next ⟨tm, hp, hn, n0⟩
    | _ => False
  | op => match aop tm hp hn op with
    | some (c, v, e) => need c (f2 v fun v => e.go hp hn fun hp hn => putK dst v tm fun tm => next ⟨tm, hp, hn, n0⟩)
    | none => False

/-- One operation under its guard, then what is next. -/
def stepG (P : Program) (o : AOper) (st : St) (next : St → Prop) : Prop :=
  match st with
  | ⟨tm, hp, hn, n0⟩ => match o.guard with
    | none => stepA P o.op o.dst tm hp hn n0 next
    | some (g, want) => match look tm g with
      | .bool b => ifB b
        (match want with
          | true => stepA P o.op o.dst ((g, .bool true) :: tm) hp hn n0 next
          | false => putK o.dst (.tup []) ((g, .bool true) :: tm) fun tm => next ⟨tm, hp, hn, n0⟩)
        (match want with
          | true => putK o.dst (.tup []) ((g, .bool false) :: tm) fun tm => next ⟨tm, hp, hn, n0⟩
          | false => stepA P o.op o.dst ((g, .bool false) :: tm) hp hn n0 next)
      | .tup _ => putK o.dst (.tup []) tm fun tm => next ⟨tm, hp, hn, n0⟩
      | _ => False

def wpOps (P : Program) : List AOper → St → (St → Prop) → Prop
  | [], st, K => K st
  | o :: rest, st, K => stepG P o st fun st => wpOps P rest st K

/-- What is read before and after alike. -/
def same (tm : List (Nat × AV)) (hp hp' : AHeap) (hn : Nat) : List (Nat × AOp) → Prop
  | [] => True
  | x :: xs => aop tm hp hn x.2 = aop tm hp' hn x.2 ∧ same tm hp hp' hn xs

/-- What is asked of a call where the order is drawn: it leaves what there was, or what those that are named read. -/
def Pushed (po : Bool) (rs : List (Nat × AOp)) (tm : List (Nat × AV)) (hp : AHeap) (hn : Nat) (h' : AHeap) (K : Prop) : Prop :=
  match po with
  | false => K
  | true => ((∃ new, h' = hp ++ new) ∨ same tm hp h' hn rs) ∧ K

/-- The same of an operation: it keeps, lays, or writes what those that are named don't read. -/
def Eff.lays (po : Bool) (rs : List (Nat × AOp)) (tm : List (Nat × AV)) (hp : AHeap) (hn : Nat) (e : Eff) (K : Prop) : Prop :=
  match po with
  | false => K
  | true => match e with
    | .keep => K
    | .push _ => K
    | .put k b => same tm hp (lset hp k (some b)) hn rs ∧ K
    | .move k b => same tm hp (lset hp k none ++ [some b]) hn rs ∧ K
    | .kill k => same tm hp (lset hp k none) hn rs ∧ K

/-- One operation where the order is drawn. -/
def stepAD (P : Program) (po : Bool) (rs : List (Nat × AOp)) (op : AOp) (dst : Option Nat) (tm : List (Nat × AV)) (hp : AHeap) (hn n0 : Nat) (next : St → Prop) : Prop :=
  match op with
  | .call f args => CallsA P f (args.map (ev tm)) hp fun r h' => Pushed po rs tm hp hn h' (putK dst r tm fun tm => next ⟨tm, h', h'.length, n0⟩)
  | .callv f args => match ev tm f with
    | .fn f cap => CallsA P f (args.map (ev tm) ++ cap) hp fun r h' => Pushed po rs tm hp hn h' (putK dst r tm fun tm => next ⟨tm, h', h'.length, n0⟩)
    | .yld l => yieldA l (args.map (ev tm)) dst tm fun tm => next ⟨tm, hp, hn, n0⟩
    | _ => False
  | op => match aop tm hp hn op with
    | some (c, v, e) => need c (e.lays po rs tm hp hn (f2 v fun v => e.go hp hn fun hp hn => putK dst v tm fun tm => next ⟨tm, hp, hn, n0⟩))
    | none => False

def stepD (P : Program) (o : AOper) (st : St) (next : St → Prop) : Prop :=
  match st with
  | ⟨tm, hp, hn, n0⟩ => match o.guard with
    | none => stepAD P o.po o.rs o.op o.dst tm hp hn n0 next
    | some (g, want) => match look tm g with
      | .bool b => ifB b
        (match want with
          | true => stepAD P o.po o.rs o.op o.dst ((g, .bool true) :: tm) hp hn n0 next
          | false => putK o.dst (.tup []) ((g, .bool true) :: tm) fun tm => next ⟨tm, hp, hn, n0⟩)
        (match want with
          | true => putK o.dst (.tup []) ((g, .bool false) :: tm) fun tm => next ⟨tm, hp, hn, n0⟩
          | false => stepAD P o.po o.rs o.op o.dst ((g, .bool false) :: tm) hp hn n0 next)
      | .tup _ => putK o.dst (.tup []) tm fun tm => next ⟨tm, hp, hn, n0⟩
      | _ => False

def wpD (P : Program) : List AOper → St → (St → Prop) → Prop
  | [], st, K => K st
  | o :: rest, st, K => stepD P o st fun st => wpD P rest st K

/-- The same state, by its temporaries' values. -/
def StEq (a b : St) : Prop := (∀ t, look a.tm t = look b.tm t) ∧ a.hp = b.hp ∧ a.hn = b.hn ∧ a.n0 = b.n0

/-- A loop: what holds at each round's head, with a number that falls. -/
def LoopA (body : (AExit → St → Prop) → St → Prop) (Q : AExit → St → Prop) (st : St) : Prop :=
  ∃ (I : Nat → St → Prop), (∃ n live keep fz, okKeep st.n0 st.hn (keep ++ fz) = true ∧ I n (st.norm live keep fz)) ∧
    ∀ n st, I n st → body (fun e st' => match e with
      | .normal => ∃ m live keep fz, m < n ∧ okKeep st'.n0 st'.hn (keep ++ fz) = true ∧ I m (st'.norm live keep fz)
      | e => Q e st') st

/-- What is handed over is given to the loop's variables. -/
def setPs : List Nat → List AV → List (Nat × AV) → List (Nat × AV)
  | p :: ps, v :: vs, tm => setPs ps vs ((p, v) :: tm)
  | _, _, tm => tm

/-- A range over a function: an invariant of the heap, by how many rounds are done. -/
def LoopR1 (P : Program) (ps : List Nat) (round : (AExit → St → Prop) → St → Prop) (Q : AExit → St → Prop) (f : FuncId) (cap : List AV) (st : St) : Prop :=
  ∃ xs, IterA P f cap xs ∧ (∀ x ∈ xs, x.length = ps.length) ∧ ∃ I : Nat → AHeap → Prop, I 0 st.hp ∧
    (∀ k x hp, xs[k]? = some x → I k hp → round (fun e st' => match e with
      | .normal => ∃ keep fz, okKeep st.hn st'.hn (keep ++ fz) = true ∧ I (k + 1) (gcH st.hn keep fz st'.hp)
      | e => ∃ keep fz, okKeep st.hn st'.hn (keep ++ fz) = true ∧ Q e ⟨st.tm, gcH st.hn keep fz st'.hp, st.hn + keep.length, st.n0⟩) ⟨setPs ps x st.tm, hp, hp.length, st.hn⟩) ∧
    ∀ hp, I xs.length hp → Q .normal ⟨st.tm, hp, hp.length, st.n0⟩

/-- A range over a function that is lent blocks. -/
def LoopRL (P : Program) (ps : List Nat) (round : (AExit → St → Prop) → St → Prop) (Q : AExit → St → Prop) (f : FuncId) (cap : List AV) (st : St) : Prop :=
  ∃ own xs cap' hi hi', okKeep 0 st.hp.length own = true ∧ viewH st.hp own own = some hi ∧ mapO (view0 st.hp own []) cap = some cap' ∧ IterL P f cap' hi xs hi' ∧ hi'.length = own.length ∧ (∀ x ∈ xs, x.length = ps.length) ∧
    ∃ I : Nat → AHeap → Prop, I 0 (killH own st.hp) ∧
    (∀ k x hp, xs[k]? = some x → I k hp → round (fun e st' => match e with
      | .normal => ∃ keep fz, okKeep st.hn st'.hn (keep ++ fz) = true ∧ I (k + 1) (gcH st.hn keep fz st'.hp)
      | e => ∃ keep fz, okKeep st.hn st'.hn (keep ++ fz) = true ∧ Q e ⟨st.tm, gcH st.hn keep fz st'.hp, st.hn + keep.length, st.n0⟩) ⟨setPs ps x st.tm, hp, hp.length, st.hn⟩) ∧
    ∀ hp, I xs.length hp → clearH own hp = true ∧ Q .normal ⟨st.tm, setAll hp own (hi'.map (·.map (renB (nth own) fun _ => none))), hp.length, st.n0⟩

def LoopR (P : Program) (g : Opd) (ps : List Nat) (round : (AExit → St → Prop) → St → Prop) (Q : AExit → St → Prop) (st : St) : Prop :=
  ∃ live keep fz, okKeep st.n0 st.hn (keep ++ fz) = true ∧ ghostOf (st.norm live keep fz).tm = none ∧ match ev (st.norm live keep fz).tm g with
    | .fn f cap => (cap.all closedU = true ∧ LoopR1 P ps round Q f cap (st.norm live keep fz)) ∨ LoopRL P ps round Q f cap (st.norm live keep fz)
    | _ => False

/-- What may be seen as another. -/
def AV.le (x y : AV) : Prop := ∀ w F S v, Rel w F S x v → Rel w F S y v

theorem AV.le.refl (x : AV) : x.le x := fun _ _ _ _ h => h

def ABlk.le : ABlk → ABlk → Prop
  | .box cs, .box ds => cs.length = ds.length ∧ ∀ (i : Nat) x y, cs[i]? = some x → ds[i]? = some y → x.le y
  | b, b' => b = b'

def oleB : Option ABlk → Option ABlk → Prop
  | some b, some b' => b.le b'
  | none, none => True
  | _, _ => False

/-- A state that may be seen as another. -/
structure St.le (a b : St) : Prop where
  tm : ∀ t, (look a.tm t).le (look b.tm t)
  g : look a.tm G = look b.tm G
  hl : a.hp.length = b.hp.length
  hp : ∀ (k : Nat) x y, a.hp[k]? = some x → b.hp[k]? = some y → oleB x y
  hn : a.hn = b.hn
  n0 : a.n0 = b.n0

theorem ABlk.le.refl (b : ABlk) : b.le b := by
  cases b with
  | box cs => exact ⟨rfl, fun i x y hx hy => by rw [hx] at hy; obtain rfl := Option.some.inj hy; exact AV.le.refl x⟩
  | ia => rfl
  | arr => rfl
  | mp => rfl

theorem oleB.refl (b : Option ABlk) : oleB b b := by
  cases b with
  | none => trivial
  | some b => exact ABlk.le.refl b

theorem St.le.refl (a : St) : a.le a := ⟨fun _ => AV.le.refl _, rfl, rfl, fun k x y hx hy => by rw [hx] at hy; obtain rfl := Option.some.inj hy; exact oleB.refl x, rfl, rfl⟩

/-- A place in the code where blocks may be given up, and the state seen as another. -/
@[irreducible] def PtW (K : St → Prop) (st : St) : Prop := ∃ live keep fz st', okKeep st.n0 st.hn (keep ++ fz) = true ∧ (st.norm live keep fz).le st' ∧ K st'

/-- A place where blocks may be given up. -/
@[irreducible] def PtK (K : St → Prop) (st : St) : Prop := ∃ live keep fz, okKeep st.n0 st.hn (keep ++ fz) = true ∧ K (st.norm live keep fz)

def wpA (P : Program) : ACode → (AExit → St → Prop) → St → Prop
  | .skip, Q, st => Q .normal st
  | .region ops, Q, st => wpOps P ops st (Q .normal)
  | .draw ops, Q, st => wpD P ops st (Q .normal)
  | .seq a b, Q, st => wpA P a (fun e st' => match e with | .normal => wpA P b Q st' | .exit id => Q (.exit id) st' | .ret => Q .ret st') st
  | .cond c a b, Q, st => match ev st.tm c with
    | .bool t => ifB t (wpA P a Q st) (wpA P b Q st)
    | _ => False
  | .block id c, Q, st => wpA P c (fun e st' => match e with
      | .normal => Q .normal st'
      | .exit id' => match Nat.beq id' id with | true => Q .normal st' | false => Q (.exit id') st'
      | .ret => Q .ret st') st
  | .loop c, Q, st => LoopA (wpA P c) Q st
  | .exit id, Q, st => Q (.exit id) st
  | .ret, Q, st => Q .ret st
  | .pt, Q, st => PtW (Q .normal) st
  | .both a b, Q, st => wpA P a Q st ∧ wpA P b Q st
  | .rangef g ps assign body, Q, st => LoopR P g ps (fun Q => wpA P assign fun e st' => match e with | .normal => wpA P body Q st' | _ => False) Q st

end Go.AL
