/- From the machine's code to the abstract code. Seat-independent. -/
import Derived.Test.YtdjnndcdplgojaaAL2
namespace Go.AL

def cLeaf : Value → Option AV
  | .int k n => some (.int k n)
  | .bool b => some (.bool b)
  | .string s => some (.str s)
  | .pointer none => some .pnil
  | .slice none 0 0 => some .snil
  | .nilFunc => some .fnil
  | .nilIface => some .inil
  | .map none => some .mnil
  | _ => none

def cVal : Value → Option AV
  | .agg cs => (cs.toList.mapM cLeaf).map .agg
  | .tuple vs => if vs.size = 0 then some .undef else none
  | v => cLeaf v

def cOpd : Operand → Option Opd
  | .tmp t => some (.tmp t)
  | .const v => (cVal v).map .const
  | .func f => some (.const (.fn f []))
  | .global _ => none

def cOO : Option Operand → Option (Option Opd)
  | none => some none
  | some l => (cOpd l).map some

def isAggB (P : Program) (t : TypeId) : Option Bool :=
  match P.underlying t with
  | some (.struct _) | some (.array _ _) => some true
  | some _ => some false
  | none => none

def sizeB (P : Program) (t : TypeId) : Option Nat := (P.info? t).map (·.size)
def bytesB (P : Program) (t : TypeId) : Option Nat := (P.info? t).map (·.bytes)

def zeroB (P : Program) (t : TypeId) : Option (List AV) := do
  let i ← P.info? t
  let z ← i.zero
  z.cells.toList.mapM cLeaf

/-- Which cells are held against each other. -/
def leafOffs (P : Program) : Nat → TypeId → Option (List (Nat × Nat))
  | 0, _ => none
  | d + 1, t => match P.underlying t with
    | some .bool => some [(0, 0)]
    | some (.int _) => some [(0, 1)]
    | some .string => some [(0, 2)]
    | some (.struct fs) => match P.stoodInHeld t with
      | true => none
      | false => offsOf (leafOffs P d) (sizeB P) (fs.toList.map fun f => (f.offset, f.type, f.name == "_"))
    | some (.array n e) => match Nat.ble n 64, sizeB P e with
      | true, some s => offsOf (leafOffs P d) (sizeB P) ((List.range n).map fun i => (i * s, e, false))
      | _, _ => none
    | _ => none
where
  offsOf (rec : TypeId → Option (List (Nat × Nat))) (size : TypeId → Option Nat) : List (Nat × TypeId × Bool) → Option (List (Nat × Nat))
    | [] => some []
    | (o, t, skip) :: r => match offsOf rec size r with
      | none => none
      | some q => match skip with
        | true => some q
        | false => match rec t, size t with
          | some l, some s => match l.all (fun x => Nat.blt x.1 s) with
            | true => some (l.map (fun x => (o + x.1, x.2)) ++ q)
            | false => none
          | _, _ => none

inductive EqPlan where
  | one (k : Nat)
  | all (offs : List (Nat × Nat))

def eqPlan (P : Program) (t : TypeId) (y : Operand) : Option EqPlan :=
  match P.underlying t with
  | some .bool => some (.one 0)
  | some .string => some (.one 2)
  | some (.pointer _) => some (.one 3)
  | some (.slice _) => some (.one 4)
  | some (.interface _) => match y with
    | .const _ => some (.one 5)
    | _ => none
  | some (.struct _) => match P.eqGuardType P.depth t with
    | true => none
    | false => (leafOffs P 6 t).map .all
  | some (.array _ _) => match P.eqGuardType P.depth t with
    | true => none
    | false => (leafOffs P 6 t).map .all
  | _ => none

def eqOp (neg : Bool) (p : EqPlan) (x y : Opd) : AOp :=
  match p with
  | .one k => .eq1 neg k x y
  | .all offs => .eqv neg offs x y

def cParts (P : Program) (t : TypeId) (parts : Array (Nat × Operand)) : Option (List (Nat × Nat × Opd)) :=
  match P.underlying t with
  | some (.struct fields) => if fields.all (fun f => (sizeB P f.type).isSome) then parts.toList.mapM fun (i, x) => do
      let f ← fields[i]?
      let s ← sizeB P f.type
      let x ← cOpd x
      if s ≠ 0 then some (f.offset, s, x) else none
    else none
  | some (.array _ elem) => if (sizeB P elem).isNone then none else parts.toList.mapM fun (i, x) => do
      let s ← sizeB P elem
      let x ← cOpd x
      if s ≠ 0 then some (i * s, s, x) else none
  | _ => none

/-- A struct that begins with a pointer to its own kind. -/
def selfB (P : Program) (t : TypeId) : Bool :=
  match P.underlying t with
  | some (.struct fs) => match fs[0]? with
    | some f => match P.underlying f.type with
      | some (.pointer u) => Nat.beq u t
      | _ => false
    | none => false
  | _ => false

def cQ (P : Program) : Op → Option AOp
  | .move x | .assign x => do pure (.mov (← cOpd x))
  | .pick c a b => do pure (.pick (← cOpd c) (← cOpd a) (← cOpd b))
  | .alloc t => match selfB P t with
    | true => do pure (.allocT t (← zeroB P t))
    | false => do pure (.alloc (← zeroB P t))
  | .box _ x => do pure (.box (← cOpd x))
  | .build t parts => do pure (.build (← zeroB P t) (← cParts P t parts))
  | .buildSlice t len parts => do
    let some (.slice e) := P.underlying t | none
    let s ← sizeB P e
    let z ← zeroB P e
    let ps ← parts.toList.mapM fun (i, x) => do pure (i, ← cOpd x)
    if s ≠ 0 ∧ z.length = s ∧ len * s ≤ 2 ^ 24 then some (.bslice s z len ps) else none
  | .load t a => do
    let a ← cOpd a
    if (← isAggB P t) then pure (.loadN (← sizeB P t) a) else pure (.load1 a)
  | .store t a x => do
    let s ← sizeB P t
    let a ← cOpd a
    let x ← cOpd x
    if s ≠ 0 then some (.store s a x) else none
  | .nilCheck x => do pure (.nilc (← cOpd x))
  | .binOp op t x y _ => match op, eqPlan P t y with
    | .eql, some p => do pure (eqOp false p (← cOpd x) (← cOpd y))
    | .neq, some p => do pure (eqOp true p (← cOpd x) (← cOpd y))
    | op, _ => do pure (.bin op (← cOpd x) (← cOpd y))
  | .unOp op _ x => do pure (.un op (← cOpd x))
  | .convert src dst x => match P.underlying src, P.underlying dst with
    | some (.int _), some (.int k) => do pure (.conv k (← cOpd x))
    | some (.slice e), some (.slice _) => match P.underlying e with
      | some (.int .u8) => if src = dst then do pure (.markS (← cOpd x)) else none
      | _ => none
    | some (.slice e), some .string => match P.underlying e with
      | some (.int .u8) => do pure (.strB (← cOpd x))
      | _ => none
    | some .string, some (.slice e) => match P.underlying e with
      | some (.int .u8) => do pure (.bytesS (← cOpd x))
      | _ => none
    | _, _ => none
  | .makeFunc (.func f) first cap => if first.size = 0 then do pure (.mkfn f (← cap.toList.mapM cOpd)) else none
  | .makeSlice t l c => do
    let some (.slice e) := P.underlying t | none
    let s ← sizeB P e
    let z ← zeroB P e
    let b ← bytesB P e
    if s ≠ 0 ∧ z.length = s then some (.mkslice b s z (← cOpd l) (← cOpd c)) else none
  | .slice t x lo (some hi) (some top) => match P.underlying t with
    | some (.slice e) => do
      let lo ← cOO lo
      let hi ← cOO (some hi)
      let mx ← cOO (some top)
      pure (.slice3 (← sizeB P e) (← cOpd x) lo hi mx)
    | _ => none
  | .slice t x lo hi none => match P.underlying t with
    | some (.slice e) => do
      let lo ← cOO lo
      let hi ← cOO hi
      pure (.slice (← sizeB P e) (← cOpd x) lo hi)
    | some .string => do
      let lo ← cOO lo
      let hi ← cOO hi
      pure (.sliceStr (← cOpd x) lo hi)
    | _ => none
  | .fieldAddr t x f => do
    let some (.struct fields) := P.underlying t | none
    let f ← fields[f]?
    let s ← sizeB P f.type
    if s ≠ 0 then do pure (.fld f.offset (← cOpd x)) else none
  | .field t x f => do
    let some (.struct fields) := P.underlying t | none
    let f ← fields[f]?
    let s ← sizeB P f.type
    let g ← isAggB P f.type
    if g = true ∨ s = 1 then pure (.field f.offset s (!g) (← cOpd x)) else none
  | .indexAddr t x i => match P.underlying t with
    | some (.array n e) => do pure (.idxA n (← sizeB P e) (← cOpd x) (← cOpd i))
    | some (.slice e) => do pure (.idxS (← sizeB P e) (← cOpd x) (← cOpd i))
    | _ => none
  | .index t x i => match P.underlying t with
    | some (.array n e) => do
      let s ← sizeB P e
      let g ← isAggB P e
      if g = true ∨ s = 1 then pure (.indexA n s (!g) (← cOpd x) (← cOpd i)) else none
    | some .string => do pure (.indexStr (← cOpd x) (← cOpd i))
    | _ => none
  | .extract t i => do pure (.ext (← cOpd t) i)
  | .makeMap _ none => some .mkmap
  | .makeMap t (some (.const (.int _ _))) => match P.underlying t with
    | some (.map _ _) => some .mkmap
    | _ => none
  | .lookup t x i ok => match P.underlying t with
    | some (.map k e) => match P.underlying k with
      | some (.int .i64) => do pure (.mlook (← cVal (← (← P.info? e).zero)) ok (← cOpd x) (← cOpd i))
      | _ => none
    | _ => none
  | .mapUpdate t x i v => match P.underlying t with
    | some (.map k _) => match P.underlying k with
      | some (.int .i64) => do pure (.mset (← cOpd x) (← cOpd i) (← cOpd v))
      | _ => none
    | _ => none
  | .call c => match c.callee with
    | .builtin .len => do
      let t ← c.argTypes[0]?
      let [x] := c.args.toList | none
      match P.underlying t with
      | some .string => do pure (.lenS (← cOpd x))
      | some (.slice _) => do pure (.lenL (← cOpd x))
      | some (.map _ _) => do pure (.mlen (← cOpd x))
      | _ => none
    | .builtin .append => do
      let t ← c.argTypes[0]?
      let u ← c.argTypes[1]?
      let [x, y] := c.args.toList | none
      let some (.slice e) := P.underlying t | none
      let s ← sizeB P e
      let z ← zeroB P e
      if s ≠ 0 ∧ z.length = s ∧ c.argTypes.size = 2 then
        if t = u then some (.append (← bytesB P e) s (← cOpd x) (← cOpd y)) else match P.underlying u, P.underlying e with
          | some (.int _), _ => some (.appendZ (← bytesB P e) z (← cOpd x) (← cOpd y))
          | some .string, some (.int .u8) => if s ≠ 1 then none else some (.appendS (← bytesB P e) (← cOpd x) (← cOpd y))
          | _, _ => none
      else none
    | .builtin .copy => do
      let t ← c.argTypes[0]?
      let [x, y] := c.args.toList | none
      let some (.slice e) := P.underlying t | none
      let s ← sizeB P e
      if s ≠ 0 then some (.copy s (← cOpd x) (← cOpd y)) else none
    | .builtin .cap => do
      let t ← c.argTypes[0]?
      let [x] := c.args.toList | none
      match P.underlying t with
      | some (.slice _) => do pure (.capS (← cOpd x))
      | _ => none
    | .builtin .clear => do
      let t ← c.argTypes[0]?
      let [x] := c.args.toList | none
      match P.underlying t with
      | some (.slice e) => do
        let s ← sizeB P e
        let z ← zeroB P e
        if s ≠ 0 ∧ z.length = s then some (.clear s z (← cOpd x)) else none
      | _ => none
    | .builtin .delete => do
      let t ← c.argTypes[0]?
      let [x, i] := c.args.toList | none
      match P.underlying t with
      | some (.map k _) => match P.underlying k with
        | some (.int .i64) => do pure (.mdel (← cOpd x) (← cOpd i))
        | _ => none
      | _ => none
    | .builtin .max => do
      let [x, y] := c.args.toList | none
      pure (.mx (← cOpd x) (← cOpd y))
    | .builtin .min => do
      let [x, y] := c.args.toList | none
      pure (.mn (← cOpd x) (← cOpd y))
    | _ => none
  | _ => none

/-- Does a compiled operation call nothing? -/
def AOp.quiet : AOp → Bool
  | .call .. | .callv .. => false
  | _ => true

def cOp (P : Program) (op : Op) : Option AOp :=
  match op with
  | .call ⟨.value (.func f), args, _⟩ => (args.toList.mapM cOpd).map (.call f)
  | .call ⟨.value x, args, _⟩ => (cOpd x).bind fun y => (args.toList.mapM cOpd).map (.callv y)
  | op => (cQ P op).filter AOp.quiet

def cGuard (ops : Array Oper) : Option (Nat × Bool) → Option (Option (Nat × Bool))
  | none => some none
  | some (j, want) => do
    let t ← (ops[j]?).bind (·.dst)
    pure (some (t, want))

/-- A new slice that is read alone. -/
def AOp.frz (fz : Bool) (op : AOp) : AOp :=
  match op with
  | .bslice s z len ps => match fz with
    | true => .bfrz s z len ps
    | false => .bslice s z len ps
  | .mkslice b s z l c => match fz with
    | true => .mkfrz b s z l c
    | false => .mkslice b s z l c
  | op => op

def cOper (P : Program) (N : Nat) (ops : Array Oper) (fz : Bool) (o : Oper) : Option AOper := do
  let op ← cOp P o.op
  let g ← cGuard ops o.guard
  if o.dst.all (· < N) then some { dst := o.dst, op := op.frz fz, guard := g } else none

/-! Regions that draw their order: an order of ours, and why it serves for all. -/

def direct (ops : Array Oper) (i : Nat) : List Nat :=
  match ops[i]? with
  | some o => (o.after.toList.filter (Region.binds .any)).map (·.on)
  | none => []

/-- What stands ahead of each operation, near and far, as bits. -/
def befFrom (ops : Array Oper) : Nat → List Nat → List Nat
  | 0, acc => acc
  | n + 1, acc => befFrom ops n (acc ++ [(direct ops acc.length).foldl (fun s k => s ||| 2 ^ k ||| acc.getD k 0) 0])

def befAll (ops : Array Oper) : List Nat := befFrom ops ops.size []

/-- Once more over all, for an order that goes backward at one place. -/
def befMore (ops : Array Oper) (acc : List Nat) : List Nat → List Nat
  | [] => acc
  | i :: r => befMore ops (lset acc i (acc.getD i 0 ||| (direct ops i).foldl (fun s k => s ||| 2 ^ k ||| acc.getD k 0) 0)) r

def upward (ops : Array Oper) : Bool := (List.range ops.size).all (fun i => (direct ops i).all (· < i))

def befOf (ops : Array Oper) : List Nat :=
  match upward ops with
  | true => befAll ops
  | false => befMore ops (befMore ops (befAll ops) (List.range ops.size)) (List.range ops.size)

/-- Each stands behind those that it needs. -/
def topoOK (ops : Array Oper) : List Nat → Bool
  | [] => true
  | x :: r => !(direct ops x).contains x && r.all (fun y => !(direct ops x).contains y) && topoOK ops r

def AOp.isP : AOp → Bool
  | .mov _ | .pick .. | .bfrz .. | .mkfrz .. | .build .. | .nilc _ | .bin .. | .eq1 .. | .eqv .. | .un .. | .conv .. | .mkfn .. | .fld .. | .field .. | .idxA .. | .indexA .. | .indexStr .. | .sliceStr .. | .ext .. | .lenS _ | .lenL _ | .capS _ | .slice3 .. | .mx .. | .mn .. | .bytesS _ => true
  | _ => false
def AOp.isR : AOp → Bool
  | .load1 _ | .loadN .. | .idxS .. | .slice .. | .strB .. => true
  | _ => false
def AOp.isA : AOp → Bool
  | .alloc _ | .allocT .. | .box _ | .bslice .. | .mkslice .. => true
  | _ => false

def Opd.tmps : Opd → List Nat
  | .tmp t => [t]
  | .const _ => []

def AOp.looks : AOp → List Nat
  | .mov x | .box x | .load1 x | .loadN _ x | .nilc x | .un _ x | .conv _ x | .fld _ x | .field _ _ _ x | .ext x _ | .lenS x | .lenL x | .strB x | .bytesS x | .markS x | .capS x | .clear _ _ x | .mlen x => x.tmps
  | .pick c a b => c.tmps ++ a.tmps ++ b.tmps
  | .alloc _ => []
  | .allocT _ _ => []
  | .mkmap => []
  | .mlook _ _ x i | .mdel x i => x.tmps ++ i.tmps
  | .mset x i v => x.tmps ++ i.tmps ++ v.tmps
  | .build _ ps => ps.flatMap fun p => p.2.2.tmps
  | .bslice _ _ _ ps | .bfrz _ _ _ ps => ps.flatMap fun p => p.2.tmps
  | .store _ a x | .bin _ a x | .eq1 _ _ a x | .eqv _ _ a x | .mkslice _ _ _ a x | .mkfrz _ _ _ a x | .idxA _ _ a x | .idxS _ a x | .indexA _ _ _ a x | .indexStr a x | .append _ _ a x | .appendZ _ _ a x | .appendS _ a x | .copy _ a x | .mx a x | .mn a x => a.tmps ++ x.tmps
  | .mkfn _ l => l.flatMap Opd.tmps
  | .slice _ x lo hi => x.tmps ++ (match lo with | some o => o.tmps | none => []) ++ (match hi with | some o => o.tmps | none => [])
  | .slice3 _ x lo hi top => x.tmps ++ (match lo with | some o => o.tmps | none => []) ++ (match hi with | some o => o.tmps | none => []) ++ (match top with | some o => o.tmps | none => [])
  | .sliceStr x lo hi => x.tmps ++ (match lo with | some o => o.tmps | none => []) ++ (match hi with | some o => o.tmps | none => [])
  | .call _ l => l.flatMap Opd.tmps
  | .callv f l => f.tmps ++ l.flatMap Opd.tmps

def AOper.looks (o : AOper) : List Nat := o.op.looks ++ (match o.guard with | some (g, _) => [g] | none => [])

def notIn (d : Option Nat) (l : List Nat) : Bool :=
  match d with
  | some d => !l.contains d
  | none => true

/-- The one ahead may as well come behind. -/
def commute (m : Bool) (i j : AOper) : Bool :=
  notIn i.dst j.looks && notIn j.dst i.looks && (match i.dst, j.dst with | some a, some b => a != b | _, _ => true) &&
    (i.op.isP || (i.op.isR && (j.op.isP || j.op.isR || j.op.isA || (j.po && m)))) && notIn (some G) i.looks && notIn i.dst [G]

/-- A new block of noughts, whose order is late. -/
def AOper.late (o : AOper) : Bool :=
  match o with
  | ⟨some _, .alloc _, none, _, _⟩ => true
  | _ => false

/-- The one behind is a block that may as well have been there ahead. -/
def latecom (i j : AOper) : Bool :=
  j.late && notIn j.dst i.looks && (match i.dst, j.dst with | some a, some b => a != b | _, _ => true)

/-- An order: what only reckons or reads comes as soon as it may, a new block as late as it may. -/
def canon (ops : Array Oper) (l : List AOper) : Nat → List Nat → List Nat
  | 0, _ => []
  | n + 1, done =>
    let ready := (List.range ops.size).filter fun i => !done.contains i && (direct ops i).all done.contains
    match ready.find? (fun i => match l[i]? with | some o => o.op.isP || o.op.isR | none => false) with
    | some i => i :: canon ops l n (i :: done)
    | none => match ready.find? (fun i => match l[i]? with | some o => !o.late | none => false), ready with
      | some i, _ => i :: canon ops l n (i :: done)
      | none, i :: _ => i :: canon ops l n (i :: done)
      | none, [] => []

/-- Is one among those that are read alike? -/
def tagged (i : Nat) (j : AOper) : Bool := j.rs.any fun x => Nat.beq x.1 i

def pairsOK (bef : List Nat) (l : List AOper) : List Nat → Bool
  | [] => true
  | i :: r => r.all (fun j => !(bef.getD i 0).testBit j && ((bef.getD j 0).testBit i || (match l[i]?, l[j]? with | some a, some b => commute (tagged i b) a b || latecom a b | _, _ => false))) && pairsOK bef l r

/-- What is read alike isn't looked at anew. -/
def relOK (bef : List Nat) (l : List AOper) : Bool :=
  (List.range l.length).all fun j => match l[j]? with
    | some b => b.rs.all fun x => (List.range l.length).all fun q => (!Nat.beq q x.1 && (bef.getD x.1 0).testBit q) || (match l[q]? with | some o => notIn o.dst x.2.looks | none => true) || (bef.getD q 0).testBit j
    | none => true

def nodupB : List Nat → Bool
  | [] => true
  | x :: xs => !xs.contains x && nodupB xs

/-- What is late has a place of its own. -/
def lateOK (l : List AOper) : Bool :=
  (List.range l.length).all fun i => match l[i]? with
    | some a => !a.late || (List.range l.length).all fun j => Nat.beq i j || (match l[j]? with | some b => (match a.dst, b.dst with | some x, some y => x != y | _, _ => true) | none => true)
    | none => true

def drawOK (ops : Array Oper) (l : List AOper) (ord : List Nat) : Bool :=
  ord.all (· < ops.size) && (List.range ops.size).all ord.contains && nodupB ord && (List.range ops.size).all (fun i => (direct ops i).all (· < ops.size)) && topoOK ops ord && pairsOK (befOf ops) l ord && lateOK l && relOK (befOf ops) l

/-- Of whom it is asked that he only lays, or writes elsewhere: whom one that reads may follow. -/
def rsOf (bef : List Nat) (l : List AOper) (ahead : List Nat) (j : Nat) : List Nat :=
  ahead.filter fun i => !(bef.getD j 0).testBit i && (match l[i]? with | some a => a.op.isR | none => false)

def rsAll (bef : List Nat) (l : List AOper) : List Nat → List Nat → List (Nat × List Nat)
  | _, [] => []
  | ahead, j :: r => (j, rsOf bef l ahead j) :: rsAll bef l (j :: ahead) r

def rsIn (po : List (Nat × List Nat)) (i : Nat) : List Nat :=
  match po with
  | [] => []
  | (j, ks) :: r => match Nat.beq i j with | true => ks | false => rsIn r i

def withPo (l : List AOper) (po : List (Nat × List Nat)) : List AOper :=
  (List.range l.length).zip l |>.map fun (i, o) => { o with po := !(rsIn po i).isEmpty, rs := (rsIn po i).filterMap fun k => (l[k]?).map fun a => (k, a.op) }

def samePo (l l' : List AOper) : Bool := Nat.beq l.length l'.length

def cDraw (ops : Array Oper) (l : List AOper) : Option ACode :=
  let ord := canon ops l ops.size []
  let l' := withPo l (rsAll (befOf ops) l [] ord)
  match ord.mapM (l'[·]?) with
  | some l'' => if drawOK ops l' ord then some (.draw l'') else none
  | none => none

/-- Two that no order binds are bound: the one ahead, or the other. -/
def withEdge (ops : Array Oper) (i j : Nat) : Array Oper := ops.modify j fun o => { o with after := o.after.push ⟨i, .data⟩ }

/-- All but these two only reckon or read. -/
def quietBut (l : List AOper) (i j : Nat) : Bool :=
  i != j && decide (i < l.length) && decide (j < l.length) && (List.range l.length).all fun q => match l[q]? with
    | some o => (Nat.beq q i || Nat.beq q j) || (o.op.isP || o.op.isR)
    | none => true

def cPair (ops : Array Oper) (l : List AOper) (i j : Nat) : Option ACode :=
  match quietBut l i j with
  | true => do
    let a ← cDraw (withEdge ops i j) l
    let b ← cDraw (withEdge ops j i) l
    pure (.both a b)
  | false => none

def heavy (l : List AOper) : List Nat :=
  (List.range l.length).filter fun i => match l[i]? with
    | some o => !(o.op.isP || o.op.isR || o.op.isA)
    | none => false

def cPairs (ops : Array Oper) (l : List AOper) : List (Nat × Nat) → Option ACode
  | [] => none
  | (i, j) :: r => match cPair ops l i j with
    | some a => some a
    | none => cPairs ops l r

def cDraws (ops : Array Oper) (l : List AOper) : Option ACode :=
  match cDraw ops l with
  | some a => some a
  | none => match Nat.ble (heavy l).length 6 with
    | true => cPairs ops l ((heavy l).flatMap fun i => ((heavy l).filter (i < ·)).map fun j => (i, j))
    | false => none

/-- What isn't taken: nothing is shown of it. -/
def badC : ACode := .cond (.const .undef) .skip .skip

def orBad : Option ACode → ACode
  | some a => a
  | none => badC

/-- Ahead of a region some blocks may be given up. -/
def atPt (pts : List Nat) (id : Nat) (a : ACode) : ACode :=
  match pts.any (Nat.beq id) with
  | true => .seq .pt a
  | false => a

def cReg (P : Program) (N : Nat) (ops : Array Oper) (draw fz : Bool) : Option ACode := do
  let l ← ops.toList.mapM (cOper P N ops fz)
  if draw then
    match cDraw ops l with
    | some a => some a
    | none => do
      let l ← ops.toList.mapM (cOper P N ops true)
      cDraws ops l
  else some (.region l)

def cCode (P : Program) (N : Nat) (pts : List Nat) : Code → Option ACode
  | .skip => some .skip
  | .region id ops draw => some (atPt pts id (orBad (cReg P N ops draw (pts.any (Nat.beq (id + 1000000))))))
  | .seq a b => do pure (.seq (← cCode P N pts a) (← cCode P N pts b))
  | .cond c a b => match cOpd c with
    | some c => do pure (.cond c (← cCode P N pts a) (← cCode P N pts b))
    | none => some badC
  | .block id c => do pure (.block id (← cCode P N pts c))
  | .loop c => do pure (.loop (← cCode P N pts c))
  | .label _ => some .skip
  | .scope c => cCode P N pts c
  | .exit id => some (.exit id)
  | .ret => some .ret
  | .rangeFunc g ps assign body => match cOpd g with
    | some g => do
      let aa ← cCode P N pts assign
      let ab ← cCode P N pts body
      if ps.toList.all (· < N) then some (.rangef g ps.toList aa ab) else none
    | none => some badC
  | _ => some badC

inductive ARes where
  | tmp (t : Nat)
  | cell (a n : Nat) (one : Bool)
  deriving Inhabited

structure AFn where
  np : Nat
  res : List ARes
  code : ACode
  deriving Inhabited

def cFn (P : Program) (f : Func) (pts : List Nat := []) : Option AFn := do
  let b ← f.body
  let code ← cCode P f.ntmps pts b
  let res ← f.results.toList.mapM fun
    | .tmp t => some (.tmp t)
    | .cell a t => do
      let s ← sizeB P t
      let g ← isAggB P t
      if g = true ∨ s = 1 then pure (.cell a s (!g)) else none
  if Nat.ble f.ntmps G then some ⟨f.params.size + f.nfree, res, code⟩ else none

end Go.AL
