/-
  The evaluator of the abstract machine, over the model's code: `callV` with fuel.
-/
import Derived.Test.YtmbepddfhlcebaaMachine
import GoSem.Op.String
import GoSem.Op.Equal
namespace Go.Proofs.Ytmbepddfhlcebaa.Am
open Go
set_option linter.unusedVariables false

/-- A call, and what is done with what it gives. -/
abbrev CallK (R : Type) := AV → List AV → Heap → (AV → Heap → Option R) → Option R
/-- A call that hands back, as one that goes on. -/
def bindCall {R : Type} (call : AV → List AV → Heap → Option (AV × Heap)) : CallK R := fun f args H K => (call f args H).bind fun p => K p.1 p.2

/-! ### annotations (they decide nothing but how much is forgotten) -/
structure Prim where
  av : {R : Type} → AV → (AV → R) → R
  avs : {R : Type} → List AV → (List AV → R) → R
  put : {R : Type} → Heap → Nat → Obj → (Heap → R) → R
  push : {R : Type} → Heap → Obj → (Heap → R) → R
  kill : {R : Type} → Heap → Nat → Nat → Nat → (Heap → R) → R
  wrap : IntKind → Int → Int

/-- What is known of a function's calls: what its arguments (by value) are read as, and what comes of them. -/
structure Orc where
  /-- may the arguments be objects? (then what comes says nothing of memory) -/
  flat : Bool
  α : Type
  dec : List AV → Option α
  val : α → AV

/-- What is known of calls of a function that writes into what one of its arguments (a whole slice, or a pointer) leads to. -/
structure Mrc where
  /-- may the other arguments be objects? (then what comes, and what is written, says nothing of memory) -/
  flat : Bool
  arg : Nat
  α : Type
  dec : List AV → Option α
  val : α → AV
  out : α → List AV

/-- What is known of a function's calls in a memory of a known shape: what the arguments and the memory are read as, what comes, and the memory behind. -/
structure Hor where
  α : Type
  dec : List AV → Heap → Option α
  val : α → AV
  heap : α → Heap

structure An where
  /-- which temporaries are kept at a loop's head (by the function and the loop's first region) -/
  keep : FuncId → Nat → Option (List Nat)
  /-- of a loop at whose head memory is begun anew: the kept slots whose slices go on growing (the others' are from there on slices by value) -/
  pack : FuncId → Nat → Option (List Nat)
  /-- of a loop's end: what is kept where it is left by an exit, and where by a return; the slices that go on growing -/
  done : FuncId → Nat → Option (List Nat × List Nat × List Nat)
  /-- of a region that draws its order (by the function and its number): the loads that may change places with loud operations, each with the first
      and the last count of loud operations at which it may be carried out -/
  draw : FuncId → Nat → Option (List (Nat × Nat × Nat))
  eqs : List TypeId
  pr : Prim
  /-- functions whose calls are known -/
  orc : FuncId → Option Orc
  /-- functions at whose end, and rounds of loops over functions (by the function and the body's first region) at whose end newer memory becomes by value -/
  swf : FuncId → Bool := fun _ => false
  swy : FuncId → Nat → Bool := fun _ _ => false
  /-- of a loop over a function: the temporaries that point to cells with growing slices -/
  gro : FuncId → Nat → List Nat := fun _ _ => []
  /-- of a loop: those of the kept pointers that point to cells with growing slices -/
  acc : FuncId → Nat → List Nat := fun _ _ => []
  /-- of a loop (by the function and the first region), of a function (0) and of a round: is all that is in memory at its head or end by value, or old? -/
  plain : FuncId → Nat → Bool := fun _ _ => false
  /-- functions that write, whose calls are known -/
  mrc : FuncId → Option Mrc := fun _ => none
  /-- functions whose calls are known in memories of known shapes -/
  hor : FuncId → Option Hor := fun _ => none

def wK (k : IntKind) (n : Int) : Int :=
  match k with
  | .i64 => if 9223372036854775808 ≤ n % 18446744073709551616 then n % 18446744073709551616 - 18446744073709551616 else n % 18446744073709551616
  | .u64 => n % 18446744073709551616
  | k => k.wrap n

def Prim.std : Prim := ⟨fun v K => K v, fun v K => K v, fun H i x K => K (H.set i x), fun H x K => K (H.push x), fun H f p ex K => K (H.kill f p ex), wK⟩

def mxI (x y : Int) : Int := if y > x then y else x
def mnI (x y : Int) : Int := if y < x then y else x

/-! ### types -/
section
variable (P : Program)
def ty (t : TypeId) : Option TypeInfo := P.types.toList[t]?
def und (t : TypeId) : Option TypeDesc :=
  match ty P t with
  | some i => match i.desc with
    | .named _ u => (ty P u).map (·.desc)
    | d => some d
  | none => none
def isAggT (t : TypeId) : Bool := match und P t with | some (.struct _) | some (.array _ _) => true | _ => false
def sizeT (t : TypeId) : Option Nat := (ty P t).map (·.size)
def zeroT (t : TypeId) : Option Value := (ty P t).bind (·.zero)
end

/-! ### typed reading -/
def asI (k : IntKind) : AV → Option Int
  | .int k' n => if k' = k then some n else none
  | _ => none
def asB : AV → Option Bool
  | .bool b => some b
  | _ => none
def asS : AV → Option Sl
  | .slice s => some s
  | _ => none
def asF : AV → Option Fz
  | .frz c len cap es => some ⟨c, len, cap, es⟩
  | _ => none
def asStr : AV → Option ByteArray
  | .str s => some s
  | _ => none
def asP : AV → Option (Option (Nat × Nat))
  | .ptr p => some p
  | _ => none
def asM : AV → Option (Option Nat)
  | .mp p => some p
  | _ => none
def asTup (n : Nat) : AV → Option (List AV)
  | .tuple vs => bif Nat.beq vs.length n then some vs else none
  | _ => none
def asAgg (n : Nat) : AV → Option (List AV)
  | .agg vs => bif Nat.beq vs.length n then some vs else none
  | _ => none

section
variable {R : Type}
def unp1 (z : Value) (v : AV) (K : AV → Option R) : Option R :=
  match z with
  | .int k _ => (asI k v).bind fun n => K (.int k n)
  | .bool _ => (asB v).bind fun b => K (.bool b)
  | .slice _ _ _ => match v with
    | .frz c len cap es => K (.frz c len cap es)
    | v => (asS v).bind fun s => K (.slice s)
  | .string _ => (asStr v).bind fun s => K (.str s)
  | .pointer _ => (asP v).bind fun p => K (.ptr p)
  | .map _ => (asM v).bind fun p => K (.mp p)
  | _ => K v
/-- As `unp1`, of what lies in cells that nothing can turn any more. -/
def unpF (z : Value) (v : AV) (K : AV → Option R) : Option R :=
  match z with
  | .int k _ => (asI k v).bind fun n => K (.int k n)
  | .bool _ => (asB v).bind fun b => K (.bool b)
  | .slice _ _ _ => (asF v).bind fun z => K (.frz z.c z.len z.cap z.es)
  | .string _ => (asStr v).bind fun s => K (.str s)
  | _ => none
def ldF : List Value → List AV → Nat → (List AV → Option R) → Option R
  | [], _, _, K => K []
  | z :: zs, c, off, K => (c[off]?).bind fun v => unpF z v fun v' => ldF zs c (off + 1) fun vs => K (v' :: vs)
def unpL : List Value → Nat → List AV → (List AV → Option R) → Option R
  | [], _, _, K => K []
  | z :: zs, i, vs, K => unp1 z (vs.getD i .top) fun v => unpL zs (i + 1) vs fun vs' => K (v :: vs')
def unpV (z : Value) (v : AV) (K : AV → Option R) : Option R :=
  match z with
  | .agg ⟨zs⟩ => (asAgg zs.length v).bind fun vs => unpL zs 0 vs fun vs' => K (.agg vs')
  | z => unp1 z v K
def unpC : List Value → Nat → List AV → (List AV → Option R) → Option R
  | [], _, _, K => K []
  | z :: zs, i, vs, K => unpV z (vs.getD i .top) fun v => unpC zs (i + 1) vs fun vs' => K (v :: vs')
def unpT (z : Value) (v : AV) (K : AV → Option R) : Option R :=
  match z with
  | .tuple ⟨zs⟩ => (asTup zs.length v).bind fun vs => unpC zs 0 vs fun vs' => K (.tuple vs')
  | z => unpV z v K
end

/-! ### memory -/
def Heap.cellsOf (H : Heap) (o : Nat) : Option (List AV) :=
  match H.get o with
  | some (.cells c _ _) => some c
  | _ => none
def Heap.cell (H : Heap) (o i : Nat) : Option AV := (H.cellsOf o).bind fun c => c[i]?
def splice (c : List AV) (off : Nat) (vs : List AV) : List AV := c.take off ++ vs ++ c.drop (off + vs.length)
def Heap.read (H : Heap) (o off n : Nat) : Option (List AV) :=
  match H.get o with
  | some (.cells c _ _) => if off + n ≤ c.length then some ((c.drop off).take n) else none
  | _ => none

section
variable {R : Type} (an : An)
def newK (H : Heap) (c : List AV) (K : Heap → R) : R := an.pr.avs c fun c => an.pr.push H (.cells c none false) K
def bearK (H : Heap) (c : List AV) (K : Heap → R) : R := an.pr.avs c fun c => an.pr.push H (.cells c (some (H.next, 0)) false) K
def touchK (H : Heap) (fam : Option (Nat × Nat)) (off o : Nat) (K : Heap → R) : R :=
  match fam with
  | none => K H
  | some (f, a) => an.pr.kill H f (a + off) o K
def writeK (H : Heap) (o off : Nat) (vs : List AV) (K : Heap → Option R) : Option R :=
  match H.get o with
  | some (.cells c fam false) =>
    if off + vs.length ≤ c.length then touchK an H fam off o fun H' => an.pr.avs (splice c off vs) fun c' => an.pr.put H' o (.cells c' fam false) K else none
  | _ => none
end

section
variable {R : Type}
def ldN : List Value → Heap → Nat → Nat → (List AV → Option R) → Option R
  | [], _, _, _, K => K []
  | z :: zs, H, o, off, K => (H.cell o off).bind fun v => unp1 z v fun v' => ldN zs H o (off + 1) fun vs => K (v' :: vs)

/-- `append`: `new` are the cells that come behind, `n` the elements, `es` the cells of one. -/
def appK (an : An) (H : Heap) (s : Sl) (n es bytes : Nat) (new : List AV) (K : AV → Heap → Option R) : Option R :=
  match s with
  | .nil =>
    bif Nat.beq n 0 then K (.slice .nil) H
    else if n ≤ 4294967296 then bif Nat.ble bytes 16384 then bearK an H new fun H' => K (.slice (.mk H.next 0 n n es)) H' else none else none
  | .mk o off len cap es' =>
    bif !Nat.beq es es' then none else
    if len + n ≤ cap then
      (bif Nat.beq n 0 then K (.slice (.mk o off len cap es)) H
       else writeK an H o (off + len * es) new fun H' => K (.slice (.mk o off (len + n) cap es)) H')
    else if len + n ≤ 4294967296 then bif Nat.ble bytes 16384 then
      match H.get o with
      | some (.cells c fam _) =>
        if off + len * es ≤ c.length then
          match fam with
          | none => bearK an H ((c.drop off).take (len * es) ++ new) fun H' => K (.slice (.mk H.next 0 (len + n) (len + n) es)) H'
          | some (f, a) => an.pr.kill H f (a + off + len * es) H.next fun H1 => an.pr.avs ((c.drop off).take (len * es) ++ new) fun c' =>
              an.pr.push H1 (.cells c' (some (f, a + off)) false) fun H' => K (.slice (.mk H.next 0 (len + n) (len + n) es)) H'
        else none
      | _ => none
      else none else none

def copyK (an : An) (H : Heap) (n : Nat) (d s : Sl) (K : AV → Heap → Option R) : Option R :=
  match d, s with
  | .mk o off len _ es, .mk o2 off2 len2 _ es2 =>
    bif !Nat.beq es n || !Nat.beq es2 n then none else
    (H.read o2 off2 (min len2 len * es)).bind fun vs => writeK an H o off vs fun H' => K (.int .i64 ((min len2 len : Nat) : Int)) H'
  | .mk _ _ _ _ _, .nil => K (.int .i64 0) H
  | .nil, _ => K (.int .i64 0) H

/-- The same, out of a slice by value. -/
def copyF (an : An) (H : Heap) (n : Nat) (d : Sl) (c : List AV) (len2 es2 : Nat) (K : AV → Heap → Option R) : Option R :=
  match d with
  | .mk o off len _ es =>
    bif !Nat.beq es n || !Nat.beq es2 n then none else
    writeK an H o off (c.take (min len2 len * es)) fun H' => K (.int .i64 ((min len2 len : Nat) : Int)) H'
  | .nil => K (.int .i64 0) H

def intK (an : An) (op : BinOp) (k : IntKind) (a b : Int) (K : AV → Option R) : Option R :=
  match op with
  | .add => K (.int k (an.pr.wrap k (a + b)))
  | .sub => K (.int k (an.pr.wrap k (a - b)))
  | .mul => K (.int k (an.pr.wrap k (a * b)))
  | .quo => if b = 0 then none else K (.int k (an.pr.wrap k (a.tdiv b)))
  | .rem => if b = 0 then none else K (.int k (a.tmod b))
  | .eql => K (.bool (decide (a = b)))
  | .neq => K (.bool (!decide (a = b)))
  | .lss => K (.bool (decide (a < b)))
  | .leq => K (.bool (decide (a ≤ b)))
  | .gtr => K (.bool (decide (b < a)))
  | .geq => K (.bool (decide (b ≤ a)))
  | .and => K (.int k (an.pr.wrap k (((BitVec.ofInt k.bits a) &&& (BitVec.ofInt k.bits b)).toNat : Int)))
  | .or => K (.int k (an.pr.wrap k (((BitVec.ofInt k.bits a) ||| (BitVec.ofInt k.bits b)).toNat : Int)))
  | .xor => K (.int k (an.pr.wrap k (((BitVec.ofInt k.bits a) ^^^ (BitVec.ofInt k.bits b)).toNat : Int)))
  | .andNot => K (.int k (an.pr.wrap k (((BitVec.ofInt k.bits a) &&& ~~~(BitVec.ofInt k.bits b)).toNat : Int)))
  | _ => none
def shiftK (an : An) (op : BinOp) (k : IntKind) (a b : Int) (K : AV → Option R) : Option R :=
  match op with
  | .shl => if b < 0 then none else K (.int k (an.pr.wrap k (a * 2 ^ (min b.toNat k.bits))))
  | .shr => if b < 0 then none else K (.int k (a.fdiv (2 ^ (min b.toNat k.bits))))
  | _ => none
def isSh (op : BinOp) : Bool := match op with | .shl | .shr => true | _ => false

def Sl.isNil : Sl → Bool
  | .nil => true
  | _ => false
end

section
variable (P : Program)
/-- `==` on the fields of structs. -/
def eqFieldsA : List Field → List AV → List AV → Option Bool
  | [], [], [] => some true
  | f :: fs, x :: xs, y :: ys =>
    match und P f.type, x, y with
    | some (.int _), .int k a, .int k' b => if k = k' then (eqFieldsA fs xs ys).map fun r => decide (a = b) && r else none
    | some .bool, .bool a, .bool b => (eqFieldsA fs xs ys).map fun r => decide (a = b) && r
    | some .string, .str a, .str b => (eqFieldsA fs xs ys).map fun r => (a.toList == b.toList) && r
    | _, _, _ => none
  | _, _, _ => none
def simpleFields : Nat → List Field → Bool
  | _, [] => true
  | i, f :: fs => f.name != "_" && Nat.beq f.offset i && simpleFields (i + 1) fs
/-- Structs that are compared cell by cell (settled once for a program's list of them). -/
def eqOk (t : TypeId) : Bool :=
  match und P t with
  | some (.struct fs) => simpleFields 0 fs.toList && !P.stoodInHeld t && !P.eqGuardType P.depth t
  | _ => false
end

section
variable {R : Type} (P : Program)
/-- `==` on what is no integer and no string. -/
def eqK (an : An) (t : TypeId) (lit : Bool) (x y : AV) (K : Bool → Option R) : Option R :=
  match und P t, x, y with
  | some .bool, .bool a, .bool b => K (decide (a = b))
  | some (.slice _), .slice s, .slice .nil => K s.isNil
  | some (.slice _), .slice .nil, .slice s => K s.isNil
  | some (.slice _), .frz _ len _ _, .slice .nil => bif Nat.beq len 0 then none else K false
  | some (.slice _), .slice .nil, .frz _ len _ _ => bif Nat.beq len 0 then none else K false
  | some (.func _ _ _), .nilFn, .nilFn => K true
  | some (.func _ _ _), .fn _ _ _, .nilFn => K false
  | some (.func _ _ _), .yield _, .nilFn => K false
  | some (.interface _), .nilIface, .nilIface => bif lit then K true else none
  | some (.interface _), .iface _ _, .nilIface => K false
  | some (.pointer _), .ptr none, .ptr none => K true
  | some (.pointer _), .ptr (some _), .ptr none => K false
  | some (.struct fs), .agg xs, .agg ys => bif an.eqs.contains t then (eqFieldsA P fs.toList xs ys).bind K else none
  | _, _, _ => none

def strK (op : BinOp) (a b : ByteArray) (K : AV → Option R) : Option R :=
  match op with
  | .eql => K (.bool (a.toList == b.toList))
  | .neq => K (.bool (!(a.toList == b.toList)))
  | .add => if a.size + b.size ≤ 4294967296 then K (.str (a ++ b)) else none
  | .lss => K (.bool (Op.bytesLess a.toList b.toList))
  | _ => none
def binK (an : An) (op : BinOp) (t : TypeId) (lit : Bool) (x y : AV) (K : AV → Option R) : Option R :=
  match x, y with
  | .int k a, .int k' b =>
    bif isSh op then shiftK an op k a b K
    else if k = k' then intK an op k a b K else none
  | .str a, .str b => strK op a b K
  | x, y => match op with
    | .eql => eqK P an t lit x y fun b => K (.bool b)
    | .neq => eqK P an t lit x y fun b => K (.bool (!b))
    | _ => none
end

def fillA (place : Nat → Option (Nat × Nat)) (cells : List AV) : List (Nat × AV) → Option (List AV)
  | [] => some cells
  | (i, v) :: rest =>
    match place i with
    | none => none
    | some (off, size) =>
      bif !v.sto || !Nat.beq v.cells.length size || !Nat.ble (off + v.cells.length) cells.length then none
      else fillA place (splice cells off v.cells) rest

def zerosA (z : List AV) (n : Nat) : List AV := (List.replicate n z).flatten

def isConstO : Operand → Bool
  | .const _ => true
  | _ => false

section
variable {R : Type} (P : Program) (an : An) (call : CallK R)

/-- A bound of a slice expression. -/
def bndK (o : Option AV) (d : Int) (K : Int → Option R) : Option R := match o with | none => K d | some v => (asI .i64 v).bind K
def sliceK (n : Nat) (s : Sl) (lo hi mx : Option AV) (K : AV → Option R) : Option R :=
  match s with
  | .nil => match mx with
    | some _ => none
    | none => bndK hi 0 fun h => bndK lo 0 fun l => if 0 ≤ l ∧ l ≤ h ∧ h ≤ 0 then K (.slice .nil) else none
  | .mk o off len cap es =>
    bif !Nat.beq es n then none else
    match mx with
    | none => bndK hi len fun h => bndK lo 0 fun l =>
      if 0 ≤ l ∧ l ≤ h ∧ h ≤ (cap : Int) then K (.slice (.mk o (off + l.toNat * es) (h.toNat - l.toNat) (cap - l.toNat) es)) else none
    | some m => (asI .i64 m).bind fun m => match hi with
      | none => none
      | some hv => (asI .i64 hv).bind fun h => bndK lo 0 fun l =>
        if 0 ≤ l ∧ l ≤ h ∧ h ≤ m ∧ m ≤ (cap : Int) then K (.slice (.mk o (off + l.toNat * es) (h.toNat - l.toNat) (m.toNat - l.toNat) es)) else none

/-- Of a slice by value: within its length. -/
def sliceF (n : Nat) (c : List AV) (len : Nat) (cap : Option Nat) (es : Nat) (lo hi mx : Option AV) (K : AV → Option R) : Option R :=
  bif !Nat.beq es n then none else
  match mx with
  | none => bndK hi len fun h => bndK lo 0 fun l =>
    if 0 ≤ l ∧ l ≤ h ∧ h ≤ (len : Int) then K (.frz ((c.drop (l.toNat * es)).take ((h.toNat - l.toNat) * es)) (h.toNat - l.toNat) (cap.map (· - l.toNat)) es) else none
  | some m => (asI .i64 m).bind fun m => match hi with
    | none => none
    | some hv => (asI .i64 hv).bind fun h => bndK lo 0 fun l =>
      if 0 ≤ l ∧ l ≤ h ∧ h ≤ m ∧ m ≤ (len : Int) then K (.frz ((c.drop (l.toNat * es)).take ((h.toNat - l.toNat) * es)) (h.toNat - l.toNat) (some (m.toNat - l.toNat)) es) else none

def lenK (ts : Array TypeId) (x : AV) (H : Heap) (K : AV → Heap → Option R) : Option R :=
  match (ts.toList[0]?).bind (und P), x with
  | some (.slice _), .slice s => K (.int .i64 (s.len : Int)) H
  | some (.slice _), .frz _ len _ _ => K (.int .i64 (len : Int)) H
  | some .string, .str s => K (.int .i64 (s.size : Int)) H
  | some (.array n _), _ => K (.int .i64 (n : Int)) H
  | _, _ => none
def capK (ts : Array TypeId) (x : AV) (H : Heap) (K : AV → Heap → Option R) : Option R :=
  match (ts.toList[0]?).bind (und P), x with
  | some (.slice _), .slice .nil => K (.int .i64 0) H
  | _, _ => none
def foldK (f : Int → Int → Int) (k : IntKind) (x : Int) : List AV → (Int → Option R) → Option R
  | [], K => K x
  | .int k' y :: rest, K => if k = k' then foldK f k (f x y) rest K else none
  | _, _ => none
def appendK (ts : Array TypeId) (s : Sl) (x : AV) (H : Heap) (K : AV → Heap → Option R) : Option R :=
  match ts.toList with
  | [st, tx] =>
    match und P st with
    | some (.slice e) =>
      match ty P e with
      | none => none
      | some ei =>
        match ei.zero.bind zCells with
        | none => none
        | some z =>
          bif !Nat.beq z.length ei.size then none else
          match und P tx, x with
          | some (.slice _), .slice .nil => appK an H s 0 ei.size ei.bytes [] K
          | some (.slice _), .slice (.mk o off len _ es) =>
            bif !Nat.beq es ei.size then none else
            (H.read o off (len * es)).bind fun vs => appK an H s len es ei.bytes vs K
          | some (.slice _), .frz c len _ es => bif !Nat.beq es ei.size then none else appK an H s len es ei.bytes c K
          | some (.int _), .int k n =>
            bif Nat.beq ei.size 0 then none else
            if 0 < n ∧ n ≤ 4294967296 then bif Nat.ble ei.bytes 16384 then appK an H s n.toNat ei.size ei.bytes (zerosA z n.toNat) K else none else none
          | _, _ => none
    | _ => none
  | _ => none
/-- `append` to a slice by value: where the capacity is known, and there is no room, a new object is made. -/
def appF (an : An) (H : Heap) (c0 : List AV) (len0 : Nat) (cap0 : Option Nat) (es0 n es bytes : Nat) (new : List AV) (K : AV → Heap → Option R) : Option R :=
  bif Nat.beq n 0 then K (.frz c0 len0 cap0 es0) H
  else bif !(Nat.beq es0 es) then none else
  match cap0 with
  | none => none
  | some k => if k < len0 + n ∧ len0 + n ≤ 4294967296 then bif Nat.ble bytes 16384 then bearK an H (c0 ++ new) fun H' => K (.slice (.mk H.next 0 (len0 + n) (len0 + n) es)) H' else none else none
def appendF (ts : Array TypeId) (c0 : List AV) (len0 : Nat) (cap0 : Option Nat) (es0 : Nat) (x : AV) (H : Heap) (K : AV → Heap → Option R) : Option R :=
  match ts.toList with
  | [st, tx] =>
    match und P st with
    | some (.slice e) =>
      match ty P e with
      | none => none
      | some ei =>
        match ei.zero.bind zCells with
        | none => none
        | some z =>
          bif !Nat.beq z.length ei.size then none else
          match und P tx, x with
          | some (.slice _), .slice .nil => appF an H c0 len0 cap0 es0 0 ei.size ei.bytes [] K
          | some (.slice _), .slice (.mk o off len _ es) =>
            bif !Nat.beq es ei.size then none else
            (H.read o off (len * es)).bind fun vs => appF an H c0 len0 cap0 es0 len es ei.bytes vs K
          | some (.slice _), .frz c len _ es => bif !Nat.beq es ei.size then none else appF an H c0 len0 cap0 es0 len es ei.bytes c K
          | _, _ => none
    | _ => none
  | _ => none
def clearK (ts : Array TypeId) (s : Sl) (H : Heap) (K : AV → Heap → Option R) : Option R :=
  match (ts.toList[0]?).bind (und P) with
  | some (.slice e) =>
    match s with
    | .nil => K (.tuple []) H
    | .mk o off len _ es =>
      bif Nat.beq len 0 then K (.tuple []) H else
      match (zeroT P e).bind zCells with
      | none => none
      | some z => bif !Nat.beq z.length es then none else writeK an H o off (zerosA z len) fun H' => K (.tuple []) H'
  | _ => none
def builtinK (b : Builtin) (ts : Array TypeId) (args : List AV) (H : Heap) (K : AV → Heap → Option R) : Option R :=
  match b, args with
  | .len, [x] => lenK P ts x H K
  | .cap, [x] => capK P ts x H K
  | .max, .int k x :: rest => foldK mxI k x rest fun n => K (.int k n) H
  | .min, .int k x :: rest => foldK mnI k x rest fun n => K (.int k n) H
  | .append, [.slice s, x] => appendK P an ts s x H K
  | .append, [.frz c len cap es, x] => appendF P an ts c len cap es x H K
  | .copy, [.slice d, .slice s] =>
    match (ts.toList[0]?).bind (und P) with
    | some (.slice e) => match sizeT P e with
      | some n => copyK an H n d s K
      | none => none
    | _ => none
  | .copy, [.slice d, .frz c len _ es] =>
    match (ts.toList[0]?).bind (und P) with
    | some (.slice e) => match sizeT P e with
      | some n => copyF an H n d c len es K
      | none => none
    | _ => none
  | .clear, [.slice s] => clearK P an ts s H K
  | _, _ => none

def allocK (e : TypeId) (H : Heap) (K : AV → Heap → Option R) : Option R :=
  match (zeroT P e).bind zCells with
  | some z => newK an H z fun H' => K (.ptr (some (H.next, 0))) H'
  | none => none
def boxK (v : AV) (H : Heap) (K : AV → Heap → Option R) : Option R :=
  bif v.sto then newK an H v.cells fun H' => K (.ptr (some (H.next, 0))) H' else none
def placesT : List Field → Option (List (Nat × Nat))
  | [] => some []
  | f :: fs => (sizeT P f.type).bind fun n => (placesT fs).map fun ps => (f.offset, n) :: ps
def buildK (t : TypeId) (parts : List (Nat × AV)) (K : AV → Option R) : Option R :=
  match (zeroT P t).bind zCells, und P t with
  | some z, some (.struct fs) =>
    match placesT P fs.toList with
    | none => none
    | some ps => match fillA (fun i => ps[i]?) z parts with
      | some cs => K (.agg cs)
      | none => none
  | some z, some (.array _ e) =>
    match sizeT P e with
    | none => none
    | some n => match fillA (fun i => some (i * n, n)) z parts with
      | some cs => K (.agg cs)
      | none => none
  | _, _ => none
def buildSliceK (t : TypeId) (len : Nat) (parts : List (Nat × AV)) (H : Heap) (K : AV → Heap → Option R) : Option R :=
  match und P t with
  | some (.slice e) =>
    match sizeT P e, (zeroT P e).bind zCells with
    | some n, some z =>
      bif !Nat.ble (len * n) 16777216 || !Nat.beq z.length n then none else
      match fillA (fun i => some (i * n, n)) (zerosA z len) parts with
      | some cs => newK an H cs fun H' => K (.slice (.mk H.next 0 len len n)) H'
      | none => none
    | _, _ => none
  | _ => none
/-- What a variable of a type holds. -/
def varK (t : TypeId) (o off : Nat) (H : Heap) (K : AV → Option R) : Option R :=
  match zeroT P t, und P t, sizeT P t with
  | some z, some d, some n =>
    bif isAggT P t then
      match z with
      | .agg ⟨zs⟩ => bif Nat.beq zs.length n then ldN zs H o off fun vs => K (.agg vs) else none
      | _ => none
    else (H.cell o off).bind fun v => unp1 z v K
  | _, _, _ => none
/-- The same, of cells that nothing can turn any more. -/
def varF (t : TypeId) (c : List AV) (off : Nat) (K : AV → Option R) : Option R :=
  match zeroT P t, und P t, sizeT P t with
  | some z, some d, some n =>
    bif isAggT P t then
      match z with
      | .agg ⟨zs⟩ => bif Nat.beq zs.length n then ldF zs c off fun vs => K (.agg vs) else none
      | _ => none
    else (c[off]?).bind fun v => unpF z v K
  | _, _, _ => none
def loadK (t : TypeId) (a : AV) (H : Heap) (K : AV → Option R) : Option R :=
  match a with
  | .ptr (some (o, off)) => varK P t o off H K
  | .fptr c off => varF P t c off K
  | _ => none
def storeK (t : TypeId) (a v : AV) (H : Heap) (K : AV → Heap → Option R) : Option R :=
  match a, sizeT P t with
  | .ptr (some (o, off)), some n => bif !v.sto || !Nat.beq v.cells.length n then none else writeK an H o off v.cells fun H' => K undefA H'
  | _, _ => none
def nilCheckK (v : AV) (K : AV → Option R) : Option R :=
  match v with
  | .ptr (some p) => K (.ptr (some p))
  | .fptr c off => K (.fptr c off)
  | .fn f a b => K (.fn f a b)
  | .yield l => K (.yield l)
  | _ => none
def unK (op : UnOp) (v : AV) (K : AV → Option R) : Option R :=
  match op, v with
  | .neg, .int k n => K (.int k (an.pr.wrap k (0 - n)))
  | .not, .bool b => K (.bool (!b))
  | _, _ => none
def convK (s d : TypeId) (v : AV) (K : AV → Option R) : Option R :=
  match und P s, und P d, v with
  | some _, some (.int k), .int _ n => K (.int k (an.pr.wrap k n))
  | some _, some .string, .str s => K (.str s)
  | _, _, _ => none
def mkIfaceK (t : TypeId) (v : AV) (K : AV → Option R) : Option R :=
  match und P t with
  | some (.interface _) => none
  | some _ => K (.iface t v)
  | none => none
def mkFuncK (fn : Fn) (first cap : List AV) (K : AV → Option R) : Option R :=
  match fn with
  | .func f => K (.fn f first cap)
  | _ => none
def makeSliceK (t : TypeId) (l c : AV) (H : Heap) (K : AV → Heap → Option R) : Option R :=
  match und P t, l, c with
  | some (.slice e), .int _ l, .int _ c =>
    match ty P e with
    | none => none
    | some ei =>
      match ei.zero.bind zCells with
      | none => none
      | some z =>
        bif !Nat.beq z.length ei.size || !Nat.ble ei.bytes 16384 then none else
        if 0 ≤ l ∧ l ≤ c ∧ c ≤ 4294967296 then newK an H (zerosA z c.toNat) fun H' => K (.slice (.mk H.next 0 l.toNat c.toNat ei.size)) H' else none
  | _, _, _ => none
def subStrK (s : ByteArray) (lo hi : Option AV) (K : AV → Option R) : Option R :=
  bndK hi (s.size : Int) fun h => bndK lo 0 fun l => if 0 ≤ l ∧ l ≤ h ∧ h ≤ (s.size : Int) then K (.str (s.extract l.toNat h.toNat)) else none
def sliceOpK (t : TypeId) (x : AV) (lo hi mx : Option AV) (K : AV → Option R) : Option R :=
  match und P t, x with
  | some (.slice e), .slice s => match sizeT P e with
    | some n => sliceK n s lo hi mx K
    | none => none
  | some (.slice e), .frz c len cap es => match sizeT P e with
    | some n => sliceF n c len cap es lo hi mx K
    | none => none
  | some .string, .str s => match mx with
    | some _ => none
    | none => subStrK s lo hi K
  | _, _ => none
def fieldAddrK (t : TypeId) (x : AV) (f : Nat) (K : AV → Option R) : Option R :=
  match und P t, x with
  | some (.struct fs), .ptr (some (o, off)) =>
    match fs.toList[f]? with
    | none => none
    | some f => match sizeT P f.type with
      | some (n + 1) => K (.ptr (some (o, off + f.offset)))
      | _ => none
  | some (.struct fs), .fptr c off =>
    match fs.toList[f]? with
    | none => none
    | some f => match sizeT P f.type with
      | some (n + 1) => K (.fptr c (off + f.offset))
      | _ => none
  | _, _ => none
def partK (t : TypeId) (cs : List AV) (off : Nat) (K : AV → Option R) : Option R :=
  match und P t, sizeT P t with
  | some _, some n => bif isAggT P t then K (.agg ((cs.drop off).take n)) else (cs[off]?).bind fun v => K v
  | _, _ => none
def fieldK (t : TypeId) (x : AV) (f : Nat) (K : AV → Option R) : Option R :=
  match und P t, x with
  | some (.struct fs), .agg cs =>
    match fs.toList[f]? with
    | none => none
    | some f => partK P f.type cs f.offset K
  | _, _ => none
def indexAddrK (t : TypeId) (x i : AV) (K : AV → Option R) : Option R :=
  match und P t, x, i with
  | some (.slice e), .slice (.mk o off len _ es), .int _ i =>
    match sizeT P e with
    | some n => bif !Nat.beq n es then none else if 0 ≤ i ∧ i < (len : Int) then K (.ptr (some (o, off + i.toNat * es))) else none
    | none => none
  | some (.array len e), .ptr (some (o, off)), .int _ i =>
    match sizeT P e with
    | some n => if 0 ≤ i ∧ i < (len : Int) then K (.ptr (some (o, off + i.toNat * n))) else none
    | none => none
  | some (.slice e), .frz c len _ es, .int _ i =>
    match sizeT P e with
    | some n => bif !Nat.beq n es then none else if 0 ≤ i ∧ i < (len : Int) then K (.fptr c (i.toNat * es)) else none
    | none => none
  | some (.array len e), .fptr c off, .int _ i =>
    match sizeT P e with
    | some n => if 0 ≤ i ∧ i < (len : Int) then K (.fptr c (off + i.toNat * n)) else none
    | none => none
  | _, _, _ => none
def indexK (t : TypeId) (x i : AV) (K : AV → Option R) : Option R :=
  match und P t, x, i with
  | some (.array len e), .agg cs, .int _ i =>
    match sizeT P e with
    | some n => if 0 ≤ i ∧ i < (len : Int) then partK P e cs (i.toNat * n) K else none
    | none => none
  | some .string, .str s, .int _ i => if 0 ≤ i ∧ i < (s.size : Int) then K (.int .u8 ((s.get! i.toNat).toNat : Int)) else none
  | _, _, _ => none
def extractK (x : AV) (i : Nat) (K : AV → Option R) : Option R :=
  match x with
  | .tuple vs => (vs[i]?).bind fun v => K v
  | _ => none
def pickK (c : AV) (a b : AV) (K : AV → Option R) : Option R :=
  match c with
  | .bool c => if c = true then K a else K b
  | _ => none
def callOpK (dst : Option Tmp) (t : TypeId) (f : AV) (args : List AV) (H : Heap) (K : AV → Heap → Option R) : Option R :=
  an.pr.avs args fun as => call f as H fun v H' =>
    match dst, zeroT P t with
    | some _, some z => unpT z v fun v => K v H'
    | _, _ => K v H'

def opK (o : Oper) (ρ : Operand → AV) (H : Heap) (K : AV → Heap → Option R) : Option R :=
  match o.op with
  | .move x => K (ρ x) H
  | .assign x => K (ρ x) H
  | .pick c a b => pickK (ρ c) (ρ a) (ρ b) fun v => K v H
  | .alloc e => allocK P an e H K
  | .box _ x => boxK an (ρ x) H K
  | .build t parts => buildK P t (parts.toList.map fun p => (p.1, ρ p.2)) fun v => K v H
  | .buildSlice t len parts => buildSliceK P an t len (parts.toList.map fun p => (p.1, ρ p.2)) H K
  | .load t a => loadK P t (ρ a) H fun v => K v H
  | .store t a x => storeK P an t (ρ a) (ρ x) H K
  | .nilCheck x => nilCheckK (ρ x) fun v => K v H
  | .binOp op t x y _ => binK P an op t (isConstO x || isConstO y) (ρ x) (ρ y) fun v => K v H
  | .unOp op _ x => unK an op (ρ x) fun v => K v H
  | .convert s d x => convK P an s d (ρ x) fun v => K v H
  | .makeInterface t x => mkIfaceK P t (ρ x) fun v => K v H
  | .makeFunc fn first cap => mkFuncK fn (first.toList.map ρ) (cap.toList.map ρ) fun v => K v H
  | .makeSlice t l c => makeSliceK P an t (ρ l) (ρ c) H K
  | .slice t x lo hi mx => sliceOpK P t (ρ x) (lo.map ρ) (hi.map ρ) (mx.map ρ) fun v => K v H
  | .fieldAddr t x f => fieldAddrK P t (ρ x) f fun v => K v H
  | .field t x f => fieldK P t (ρ x) f fun v => K v H
  | .indexAddr t x i => indexAddrK P t (ρ x) (ρ i) fun v => K v H
  | .index t x i => indexK P t (ρ x) (ρ i) fun v => K v H
  | .extract x i => extractK (ρ x) i fun v => K v H
  | .call c => match c.callee with
    | .builtin b => builtinK P an b c.argTypes (c.args.toList.map ρ) H K
    | .value f => callOpK P an call o.dst o.type (ρ f) (c.args.toList.map ρ) H K
    | _ => none
  | _ => none

/-! ### regions -/
def tsetK {R : Type} (t : Tm) (d : Option Tmp) (v : AV) (K : Tm → R) : R := match d with | some d => t.setK d v K | none => K t
def evalA (t : Tm) : Operand → AV
  | .tmp n => t.at n
  | .const v => ofValue v
  | .global _ => .top
  | .func f => .fn f [] []

/-- What a guarded operation does: is it carried out or passed over? -/
def guardK (ops : List Oper) (o : Oper) (t : Tm) (go skip : Tm → Option R) : Option R :=
  match o.guard with
  | none => go t
  | some (j, want) =>
    match (ops[j]?).bind (·.dst) with
    | none => none
    | some d =>
      match t.at d with
      | .bool b =>
        if b = true then t.setK d (.bool true) fun t => bif want then go t else skip t
        else t.setK d (.bool false) fun t => bif want then skip t else go t
      | .tuple [] => skip t
      | _ => none

def opsK (ops : Array Oper) : List Nat → Tm → Heap → (Tm → Heap → Option R) → Option R
  | [], t, H, K => K t H
  | i :: rest, t, H, K =>
    match ops.toList[i]? with
    | none => none
    | some o => guardK ops.toList o t
      (fun t => opK P an call o (evalA t) H fun v H' => an.pr.av v fun v => tsetK t o.dst v fun t => opsK ops rest t H' K)
      (fun t => tsetK t o.dst undefA fun t => opsK ops rest t H K)
end

mutual
def AV.beq : AV → AV → Bool
  | .top, .top => true
  | .bool a, .bool b => a == b
  | .int k a, .int k' b => k == k' && a == b
  | .str a, .str b => a.data == b.data
  | .ptr a, .ptr b => a == b
  | .slice a, .slice b => a == b
  | .fn f a b, .fn g c d => f == g && AV.beqs a c && AV.beqs b d
  | .yield a, .yield b => a == b
  | .nilFn, .nilFn => true
  | .iface t a, .iface u b => t == u && AV.beq a b
  | .nilIface, .nilIface => true
  | .agg a, .agg b => AV.beqs a b
  | .tuple a, .tuple b => AV.beqs a b
  | .mp a, .mp b => a == b
  | .frz c l k e, .frz c' l' k' e' => AV.beqs c c' && l == l' && k == k' && e == e'
  | .fptr c o, .fptr c' o' => AV.beqs c c' && o == o'
  | _, _ => false
def AV.beqs : List AV → List AV → Bool
  | [], [] => true
  | a :: x, b :: y => AV.beq a b && AV.beqs x y
  | _, _ => false
end

/-- Do two memories read alike at `n` cells from `(o, off)` on? -/
def same1 (H H' : Heap) (o off : Nat) : Nat → Bool
  | 0 => true
  | n + 1 => (match H.cell o off, H'.cell o off with
    | some a, some b => AV.beq a b
    | _, _ => false) && same1 H H' o (off + 1) n

/-- A load's note: between which places of the text's order it may be carried out, and the cells. -/
structure Note where
  lo : Nat
  hi : Nat
  o : Nat
  off : Nat
  n : Nat

/-- `recs`: the memories before and behind each loud operation, by its place. -/
def okNote (recs : List (Nat × Heap × Heap)) (q : Note) : Bool :=
  recs.all fun p => !(Nat.ble q.lo p.1 && Nat.blt p.1 q.hi) || same1 p.2.1 p.2.2 q.o q.off q.n

def isAllocO (o : Oper) : Bool := match o.op with | .alloc _ | .box .. | .buildSlice .. | .makeSlice .. => true | _ => false
def isLoudO (o : Oper) : Bool := isAllocO o || (match o.op with
  | .store .. => true
  | .call { callee := .value _, .. } => true
  | .call { callee := .builtin .append, .. } | .call { callee := .builtin .copy, .. } | .call { callee := .builtin .clear, .. } => true
  | _ => false)
def isLoadO (o : Oper) : Bool := match o.op with | .load .. => true | _ => false
/-- Operations that neither read nor write memory. -/
def isPureO (o : Oper) : Bool := match o.op with
  | .move _ | .assign _ | .pick .. | .build .. | .nilCheck _ | .binOp .. | .unOp .. | .convert .. | .makeInterface .. | .makeFunc .. | .slice ..
  | .fieldAddr .. | .field .. | .indexAddr .. | .index .. | .extract .. => true
  | .call { callee := .builtin .len, .. } | .call { callee := .builtin .cap, .. } | .call { callee := .builtin .max, .. } | .call { callee := .builtin .min, .. } => true
  | _ => false

def tmpsOf (ops : List Oper) (o : Oper) : List Tmp :=
  o.op.operands.toList.filterMap (fun | .tmp t => some t | _ => none) ++
    (match o.guard with | none => [] | some (j, _) => ((ops[j]?).bind (·.dst)).toList)

/-- Is operation `i` bound to come before `j`? -/
def ordB (b : List Nat) (i j : Nat) : Bool := (b.getD j 0).testBit i
def loudAt (ops : List Oper) : List Nat := (List.range ops.length).filter fun i => match ops[i]? with | some o => isLoudO o | none => false

def drawOne (ops : List Oper) (b : List Nat) (loud : List Nat) (j : Nat) (o : Oper) : Bool :=
  (isLoudO o || isLoadO o || isPureO o) &&
  (o.after.toList.all fun e => !Region.binds .any e || Nat.blt e.on j) &&
  (match o.guard with | none => true | some (g, _) => Nat.blt g j && ordB b g j) &&
  ((List.range ops.length).all fun i => match ops[i]? with
    | none => true
    | some p => match p.dst with
      | none => true
      | some d => Nat.beq i j || (!(o.dst == some d) && (!(tmpsOf ops o).contains d || (bif Nat.blt i j then ordB b i j else ordB b j i)))) &&
  (!isLoudO o || isAllocO o || loud.all fun i => !Nat.blt i j || ordB b i j) &&
  (loud.all fun k => !ordB b k j || (match ops[k]? with | some a => !isAllocO a | none => true) || loud.all fun i => !Nat.blt i k || ordB b i j)

/-- May the region's operations be carried out in the order of the text, whatever order is drawn? -/
def drawOk (ops : List Oper) (b : List Nat) : Bool :=
  (List.range ops.length).all fun j => match ops[j]? with | some o => drawOne ops b (loudAt ops) j o | none => true

def loOf (loud : List Nat) (b : List Nat) (j : Nat) : Nat := loud.foldl (fun m i => bif ordB b i j then i + 1 else m) 0
def hiOf (n : Nat) (loud : List Nat) (b : List Nat) (j : Nat) : Nat := loud.foldr (fun i m => bif ordB b j i then i else m) n

section
variable {R : Type} (P : Program) (an : An) (call : CallK R)

def noteOf (rg : List (Nat × Nat × Nat)) (i : Nat) (o : Oper) (ρ : Operand → AV) : List Note :=
  match rg.find? fun q => Nat.beq q.1 i with
  | none => []
  | some (_, lo, hi) =>
    match o.op with
    | .load t a =>
      match ρ a, sizeT P t with
      | .ptr (some (p, off)), some n => [⟨lo, hi, p, off, match n with | 0 => 1 | n + 1 => n + 1⟩]
      | _, _ => []
    | _ => []

/-- The table's row for a region, computed. -/
def rowOf (ops : List Oper) (b : List Nat) : List (Nat × Nat × Nat) :=
  (List.range ops.length).filterMap fun j => match ops[j]? with
    | none => none
    | some o =>
      bif isLoadO o && (loudAt ops).any (fun l => Nat.ble (loOf (loudAt ops) b j) l && Nat.blt l (hiOf ops.length (loudAt ops) b j)) then
        some (j, loOf (loudAt ops) b j, hiOf ops.length (loudAt ops) b j) else none

/-- As `opsK`, with the memories before and behind each loud operation, and the loads' notes (last first). -/
def drawK (ops : Array Oper) (rg : List (Nat × Nat × Nat)) : List Nat → Tm → Heap → List (Nat × Heap × Heap) → List Note → (Tm → Heap → Option R) → Option R
  | [], t, H, recs, ns, K => bif ns.all (okNote recs) then K t H else none
  | i :: rest, t, H, recs, ns, K =>
    match ops.toList[i]? with
    | none => none
    | some o => guardK ops.toList o t
      (fun t => opK P an call o (evalA t) H fun v H' => an.pr.av v fun v => tsetK t o.dst v fun t' =>
        drawK ops rg rest t' H' (bif isLoudO o then (i, H, H') :: recs else recs) (noteOf P rg i o (evalA t) ++ ns) K)
      (fun t => tsetK t o.dst undefA fun t => drawK ops rg rest t H recs ns K)

def regionK (fid : FuncId) (id : Nat) (ops : Array Oper) (draw : Bool) (t : Tm) (H : Heap) (K : Tm → Heap → Option R) : Option R :=
  bif draw then
    match an.draw fid id with
    | none => none
    | some [] => opsK P an call ops (List.range ops.toList.length) t H K
    | some (q :: rg) => drawK P an call ops (q :: rg) (List.range ops.toList.length) t H [] [] K
  else opsK P an call ops (List.range ops.toList.length) t H K

/-- Does the table say of a region what is so? -/
def drawRight (fid : FuncId) : Code → Bool
  | .region id ops d => !d || (match an.draw fid id with
    | none => true
    | some rg => drawOk ops.toList (Region.before ops).toList && rg == rowOf ops.toList (Region.before ops).toList)
  | .seq a b => drawRight fid a && drawRight fid b
  | .cond _ a b => drawRight fid a && drawRight fid b
  | .block _ b => drawRight fid b
  | .loop b => drawRight fid b
  | .scope b => drawRight fid b
  | .rangeFunc _ _ a b => drawRight fid a && drawRight fid b
  | _ => true

/-! ### code -/
def firstRegion : Code → Nat
  | .region id _ _ => id
  | .seq a _ => firstRegion a
  | .block _ b => firstRegion b
  | .loop b => firstRegion b
  | .scope b => firstRegion b
  | .rangeFunc _ _ a _ => firstRegion a
  | _ => 0

def keepL {R : Type} : List Nat → Tm → Tm → (Tm → R) → R
  | [], _, u, K => K u
  | k :: ks, t, u, K => u.setK k (t.at k) fun u => keepL ks t u K
def keepK {R : Type} (ks : Option (List Nat)) (t : Tm) (K : Tm → R) : R :=
  match ks with
  | none => K t
  | some ks => keepL ks t .leaf K

/-- An object's block: its owner. -/
def idOf (o : Nat) (fam : Option (Nat × Nat)) : Nat × Bool := match fam with | none => (o, true) | some q => (q.1, false)
def idEq (a b : Nat × Bool) : Bool := Nat.beq a.1 b.1 && (a.2 == b.2)
def idIn (a : Nat × Bool) (l : List (Nat × Bool)) : Bool := l.any (idEq a)
def idDup : List (Nat × Bool) → Bool
  | [] => false
  | a :: l => idIn a l || idDup l

/-- A value without references to memory: slices by value in the place of those that do not grow. -/
def resA (H : Heap) (ids : List (Nat × Bool)) : Nat → AV → AV
  | 0, _ => .top
  | f + 1, .slice (.mk o off len cap es) =>
    match H.get o with
    | some (.cells c fam false) => bif idIn (idOf o fam) ids || !Nat.ble (off + len * es) c.length then .top else .frz (((c.drop off).take (len * es)).map (resA H ids f)) len (match fam with | none => some cap | some _ => none) es
    | _ => .top
  | f + 1, .agg cs => .agg (cs.map (resA H ids f))
  | f + 1, .tuple cs => .tuple (cs.map (resA H ids f))
  | f + 1, .fn g a b => .fn g (a.map (resA H ids f)) (b.map (resA H ids f))
  | f + 1, .iface t v => .iface t (resA H ids f v)
  | f + 1, .ptr (some (o, off)) =>
    match H.get o with
    | some (.cells c fam false) => bif idIn (idOf o fam) ids then .top else .fptr (c.map (resA H ids f)) off
    | _ => .top
  | _ + 1, .yield _ => .top
  | _ + 1, .bool b => .bool b
  | _ + 1, .int k n => .int k n
  | _ + 1, .str s => .str s
  | _ + 1, .ptr none => .ptr none
  | _ + 1, .slice .nil => .slice .nil
  | _ + 1, .nilFn => .nilFn
  | _ + 1, .nilIface => .nilIface
  | _ + 1, .frz c len cap es => .frz c len cap es
  | _ + 1, .fptr c off => .fptr c off
  | _ + 1, _ => .top

/-- At the end of a call that began with `n` objects: what is older stays as it is; what is newer is by value from there on (`nest`: within what is by value). -/
def resB (H : Heap) (n : Nat) (bad : List (Nat × Bool)) : Bool → Nat → AV → AV
  | _, 0, _ => .top
  | nest, f + 1, .slice (.mk o off len cap es) =>
    bif Nat.blt o n then (bif nest then .top else .slice (.mk o off len cap es)) else
    match H.get o with
    | some (.cells c fam false) => bif Nat.blt (idOf o fam).1 n || idIn (idOf o fam) bad || !Nat.ble (off + len * es) c.length then .top else .frz (((c.drop off).take (len * es)).map (resB H n bad true f)) len (match fam with | none => some cap | some _ => none) es
    | _ => .top
  | nest, f + 1, .agg cs => .agg (cs.map (resB H n bad nest f))
  | nest, f + 1, .tuple cs => .tuple (cs.map (resB H n bad nest f))
  | nest, f + 1, .fn g a b => .fn g (a.map (resB H n bad nest f)) (b.map (resB H n bad nest f))
  | nest, f + 1, .iface t v => .iface t (resB H n bad nest f v)
  | nest, f + 1, .ptr (some (o, off)) =>
    bif Nat.blt o n then (bif nest then .top else .ptr (some (o, off))) else
    match H.get o with
    | some (.cells c fam false) => bif Nat.blt (idOf o fam).1 n || idIn (idOf o fam) bad then .top else .fptr (c.map (resB H n bad true f)) off
    | _ => .top
  | nest, _ + 1, .yield l => bif Nat.blt l n && !nest then .yield l else .top
  | _, _ + 1, .bool b => .bool b
  | _, _ + 1, .int k n => .int k n
  | _, _ + 1, .str s => .str s
  | _, _ + 1, .ptr none => .ptr none
  | _, _ + 1, .slice .nil => .slice .nil
  | _, _ + 1, .nilFn => .nilFn
  | _, _ + 1, .nilIface => .nilIface
  | _, _ + 1, .frz c len cap es => .frz c len cap es
  | _, _ + 1, .fptr c off => .fptr c off
  | _, _ + 1, _ => .top

/-- Are a loop's kept values older than `n`? -/
def oldV (n : Nat) : Nat → AV → Bool
  | 0, _ => false
  | f + 1, .slice (.mk o _ _ _ _) => Nat.blt o n
  | f + 1, .agg cs => cs.all (oldV n f)
  | f + 1, .tuple cs => cs.all (oldV n f)
  | f + 1, .fn _ a b => a.all (oldV n f) && b.all (oldV n f)
  | f + 1, .iface _ v => oldV n f v
  | f + 1, .ptr (some (o, _)) => Nat.blt o n
  | _ + 1, .yield l => Nat.blt l n
  | _ + 1, _ => true
def Tri.allV {α : Type} (p : α → Bool) : Tri α → Bool
  | .leaf => true
  | .node v l r => (match v with | some x => p x | none => true) && l.allV p && r.allV p

/-- The cells that hold growing slices. -/
def accs (t : Tm) : List Nat → List Nat
  | [] => []
  | k :: ks => match t.at k with
    | .ptr (some (o, _)) => o :: accs t ks
    | _ => accs t ks
/-- Has no object before `j` the family `x`? -/
def noFam (H : Heap) (x : Nat) : Nat → Bool
  | 0 => true
  | j + 1 => (match H.get j with | some (.cells _ (some (f, _)) _) => !Nat.beq f x | _ => true) && noFam H x j
/-- What such a cell's slice is: the family, the cells, its object. -/
def growAt (H : Heap) (n x : Nat) : Option (Nat × List AV × Nat × Nat × Nat) :=
  match H.get x with
  | some (.cells [.slice (.mk o off len cap es)] none false) =>
    match H.get o with
    | some (.cells c (some (f, _)) false) =>
      bif !Nat.blt o n && (Nat.beq f x || !Nat.blt f n) && Nat.ble (off + len * es) c.length && Nat.blt 0 len && noFam H x n && Nat.blt x n then some (f, (c.drop off).take (len * es), len, es, o) else none
    | _ => none
  | _ => none
def badsOf (H : Heap) (n : Nat) : List Nat → List (Nat × Bool)
  | [] => []
  | x :: xs => match growAt H n x with
    | some (f, _) => (f, false) :: badsOf H n xs
    | none => badsOf H n xs
/-- Cells at a head or an end. -/
def cellsK {R : Type} (an : An) (pln : Bool) (H : Heap) (n : Nat) (bad : List (Nat × Bool)) (nest : Bool) (c : List AV) (K : List AV → Option R) : Option R :=
  bif pln then (bif c.all (oldV n 8) then K c else none) else an.pr.avs (c.map (resB H n bad nest 8)) K
def sweepL {R : Type} (an : An) (pln : Bool) (H : Heap) (n : Nat) (xs : List Nat) (bad : List (Nat × Bool)) : Nat → Heap → (Heap → Option R) → Option R
  | 0, N, K => K N
  | j + 1, N, K =>
    match (bif xs.any (Nat.beq N.next) then growAt H n N.next else none) with
    | some (_, c, len, es, _) => cellsK an pln H n bad true c fun c => an.pr.push N (.grow c len es) fun N => sweepL an pln H n xs bad j N K
    | none =>
      match H.get N.next with
      | some (.cells c fam false) => cellsK an pln H n bad false c fun c => an.pr.push N (.cells c fam false) fun N => sweepL an pln H n xs bad j N K
      | some (.loop rc) => bif rc.tmps.allV (oldV n 8) then an.pr.push N (.loop rc) fun N => sweepL an pln H n xs bad j N K else an.pr.push N .dead fun N => sweepL an pln H n xs bad j N K
      | some (.grow c len es) => cellsK an pln H n bad true c fun c => an.pr.push N (.grow c len es) fun N => sweepL an pln H n xs bad j N K
      | _ => an.pr.push N .dead fun N => sweepL an pln H n xs bad j N K
/-- The end of a call that began with `n` objects: newer memory becomes by value, but for the slices that go on growing in the cells `xs`. -/
def sweepK {R : Type} (an : An) (pln : Bool) (n : Nat) (xs : List Nat) (v : AV) (H : Heap) (K : AV → Heap → Option R) : Option R :=
  bif idDup (badsOf H n xs) then none else
  an.pr.av (resB H n (badsOf H n xs) false 8 v) fun v => sweepL an pln H n xs (badsOf H n xs) n Heap.empty fun N => K v N
/-- The cells' slices become objects of their own again. -/
def openK {R : Type} (an : An) : List Nat → Heap → (Heap → Option R) → Option R
  | [], H, K => K H
  | x :: xs, H, K => match H.get x with
    | some (.grow c len es) => an.pr.put H x (.cells [.slice (.mk H.next 0 len len es)] none false) fun H1 => an.pr.push H1 (.cells c (some (x, 0)) false) fun H2 => openK an xs H2 K
    | _ => openK an xs H K

structure Gr where
  o : Nat
  c : List AV
  fam : Option (Nat × Nat)
  /-- of a cell with a growing slice: the slice's family, its cells, how many elements it has, and how many cells each -/
  inn : Option (Nat × List AV × Nat × Nat)
def Gr.ids (g : Gr) : List (Nat × Bool) := idOf g.o g.fam :: (match g.inn with | some q => [(q.1, false)] | none => [])
def innAt (H : Heap) (n : Nat) (c : List AV) (fam : Option (Nat × Nat)) : Option (Nat × List AV × Nat × Nat) :=
  match c, fam with
  | [.slice (.mk o off len _ es)], none =>
    match H.get o with
    | some (.cells c1 (some (f, _)) false) => bif !Nat.blt f n && Nat.ble (off + len * es) c1.length && Nat.blt 0 len then some (f, (c1.drop off).take (len * es), len, es) else none
    | _ => none
  | _, _ => none
def grownL (H : Heap) (n : Nat) (as : List Nat) (t : Tm) : List Nat → Option (List Gr)
  | [] => some []
  | g :: gs =>
    match t.at g with
    | .slice .nil => grownL H n as t gs
    | .slice (.mk o _ _ _ _) =>
      bif Nat.blt o n then grownL H n as t gs else
      match H.get o with
      | some (.cells c fam false) => bif Nat.blt (idOf o fam).1 n then none else match grownL H n as t gs with
        | some l => some (⟨o, c, fam, none⟩ :: l)
        | none => none
      | _ => none
    | .ptr (some (o, _)) =>
      bif Nat.blt o n then grownL H n as t gs else
      match H.get o with
      | some (.cells c fam false) => bif Nat.blt (idOf o fam).1 n then none else match grownL H n as t gs with
        | some l => some (⟨o, c, fam, bif as.any (Nat.beq g) then innAt H n c fam else none⟩ :: l)
        | none => none
      | _ => none
    | _ => none
def placeG : List Gr → Nat → Nat → Option Nat
  | [], _, _ => none
  | g :: G, i, o => bif Nat.beq g.o o then some i else placeG G (i + 1) o
def packV (H : Heap) (n : Nat) (G : List Gr) (grow : Bool) (v : AV) : AV :=
  bif grow then match v with
    | .slice .nil => .slice .nil
    | .slice (.mk o off len cap es) => bif Nat.blt o n then .slice (.mk o off len cap es) else match placeG G n o with
      | some i => .slice (.mk i off len cap es)
      | none => .top
    | .ptr (some (o, off)) => bif Nat.blt o n then .ptr (some (o, off)) else match placeG G n o with
      | some i => .ptr (some (i, off))
      | none => .top
    | _ => .top
  else resB H n (G.flatMap Gr.ids) false 8 v
def packL {R : Type} (an : An) (H : Heap) (n : Nat) (G : List Gr) (gs : List Nat) (t : Tm) : List Nat → Tm → (Tm → R) → R
  | [], u, K => K u
  | k :: ks, u, K => an.pr.av (packV H n G (gs.any (Nat.beq k)) (t.at k)) fun v => u.setK k v fun u => packL an H n G gs t ks u K
def packH {R : Type} (an : An) (pln : Bool) (H : Heap) (n : Nat) (ids : List (Nat × Bool)) : List Gr → Heap → (Heap → Option R) → Option R
  | [], N, K => K N
  | g :: G, N, K => match g.inn with
    | some (_, c, len, es) => cellsK an pln H n ids true c fun c => an.pr.push N (.grow c len es) fun N => packH an pln H n ids G N K
    | none => cellsK an pln H n ids false g.c fun c => an.pr.push N (.cells c (match g.fam with | none => none | some q => some (N.next, q.2)) false) fun N => packH an pln H n ids G N K
/-- Memory but for the first `n` objects is begun anew: the kept slots' values, and the slices that go on growing. -/
def packK {R : Type} (an : An) (pln : Bool) (n : Nat) (as ks gs : List Nat) (t : Tm) (H : Heap) (K : Tm → Heap → Option R) : Option R :=
  match grownL H n as t gs with
  | none => none
  | some G => bif idDup (G.flatMap Gr.ids) then none else
    packL an H n G gs t ks .leaf fun u => sweepL an pln H n [] (G.flatMap Gr.ids) n Heap.empty fun N => packH an pln H n (G.flatMap Gr.ids) G N fun N => K u N
/-- A loop's head. -/
abbrev Head (R : Type) := Tm → Heap → (Tm → Heap → Option R) → Option R
def headK {R : Type} (an : An) (pln : Bool) (n : Nat) (as : List Nat) (ks gs : Option (List Nat)) : Head R := fun t H K =>
  match gs with
  | none => keepK ks t fun t => K t H
  | some gs => packK an pln n as (ks.getD []) gs t H K

/-- A loop's end. -/
def doneK {R : Type} (an : An) (pln : Bool) (n : Nat) (as : List Nat) (x : Option (List Nat × List Nat × List Nat)) (ret : Bool) : Head R := fun t H K =>
  match x with
  | none => K t H
  | some q => packK an pln n as (bif ret then q.2.1 else q.1) q.2.2 t H fun t H => openK an (accs t as) H fun H => K t H

abbrev Fix (R : Type) := ((Tm → Heap → Option R) → Tm → Heap → Option R) → Tm → Heap → Option R
abbrev Run (R : Type) := Tm → Heap → (Ex → Tm → Heap → Option R) → Option R

def seqC (x y : Run R) : Run R := fun t H K => x t H fun ex t H => match ex with
  | .normal => y t H K
  | .ret => K .ret t H
  | .exit id => K (.exit id) t H
def condC (c : Operand) (x y : Run R) : Run R := fun t H K =>
  match evalA t c with
  | .bool b =>
    (match c with
    | .tmp d => if b = true then t.setK d (.bool true) fun t => x t H K else t.setK d (.bool false) fun t => y t H K
    | _ => if b = true then x t H K else y t H K)
  | _ => none
def blockC (id : Nat) (x : Run R) : Run R := fun t H K => x t H fun ex t H => match ex with
  | .normal => K .normal t H
  | .ret => K .ret t H
  | .exit id' => bif Nat.beq id' id then K .normal t H else K (.exit id') t H
def loopC (hd : Head R) (dn : Bool → Head R) (fix : Fix R) (x : Run R) : Run R := fun t H K =>
  hd t H fun t H => fix (fun self t H => x t H fun ex t H => match ex with
    | .normal => hd t H fun t H => self t H
    | .ret => dn true t H fun t H => K .ret t H
    | .exit id => dn false t H fun t H => K (.exit id) t H) t H
/-- In a round: is its loop there? -/
def rdOk (rd : Option Nat) (H : Heap) : Bool :=
  match rd with
  | none => true
  | some l => match H.get l with | some (.loop _) => true | _ => false
def rangeC (fid : FuncId) (rd : Option Nat) (f : Operand) (ps : Array Tmp) (a b : Code) : Run R := fun t H K =>
  bif !rdOk rd H then none else
  keepK (an.keep fid (firstRegion a)) t fun t' =>
  an.pr.push H (.loop ⟨false, false, none, fid, t', ps.toList, a, b⟩) fun H1 =>
  call (evalA t f) [.yield H.next] H1 fun _ H2 =>
    match H2.get H.next with
    | some (.loop rc) =>
      bif rc.busy then none else
      match rc.pend with
      | none => an.pr.put H2 H.next .dead fun H' => openK an (accs t' (an.gro fid (firstRegion b))) H' fun H' => K .normal t H'
      | some .normal => none
      | some .ret => an.pr.put H2 H.next .dead fun H' => openK an (accs t' (an.gro fid (firstRegion b))) H' fun H' => K .ret t H'
      | some (.exit id) => an.pr.put H2 H.next .dead fun H' => openK an (accs t' (an.gro fid (firstRegion b))) H' fun H' => K (.exit id) t H'
    | _ => none

def exec (fid : FuncId) (rt : Nat) (rd : Option Nat) (fix : Fix R) : Code → Run R
  | .skip => fun t H K => K .normal t H
  | .label _ => fun t H K => K .normal t H
  | .region id ops d => fun t H K => regionK P an call fid id ops d t H fun t H => K .normal t H
  | .seq a b => seqC (exec fid rt rd fix a) (exec fid rt rd fix b)
  | .cond c x y => condC c (exec fid rt rd fix x) (exec fid rt rd fix y)
  | .block id b => blockC id (exec fid rt rd fix b)
  | .loop b => loopC (headK an (an.plain fid (firstRegion b)) rt (an.acc fid (firstRegion b)) (an.keep fid (firstRegion b)) (an.pack fid (firstRegion b))) (doneK an (an.plain fid (firstRegion b)) rt (an.acc fid (firstRegion b)) (an.done fid (firstRegion b))) fix (exec fid rt rd fix b)
  | .rangeFunc f ps a b => rangeC an call fid rd f ps a b
  | .exit id => fun t H K => K (.exit id) t H
  | .scope b => exec fid rt rd fix b
  | .ret => fun t H K => K .ret t H
  | .goto _ => fun _ _ _ => none
  | .refuse _ => fun _ _ _ => none

def resOne (t : Tm) (H : Heap) (r : ResultVar) (K : AV → Option R) : Option R :=
  match r with
  | .tmp d => K (t.at d)
  | .cell a ty' => loadK P ty' (t.at a) H K
def resL (t : Tm) (H : Heap) : List ResultVar → (List AV → Option R) → Option R
  | [], K => K []
  | r :: rs, K => resOne P t H r fun v => resL t H rs fun vs => K (v :: vs)
end

section
variable {R : Type} (P : Program) (an : An)

def resK (rs : List ResultVar) (t : Tm) (H : Heap) (K : AV → Heap → Option R) : Option R :=
  resL P t H rs fun vs => match vs with
    | [v] => an.pr.av v fun v => K v H
    | vs => an.pr.av (.tuple vs) fun v => K v H

def tmFrom {R : Type} : List AV → Nat → Tm → (Tm → R) → R
  | [], _, t, K => K t
  | v :: vs, i, t, K => t.setK i v fun t => tmFrom vs (i + 1) t K
def tmPut {R : Type} : List Nat → List AV → Tm → (Tm → R) → R
  | p :: ps, v :: vs, t, K => t.setK p v fun t => tmPut ps vs t K
  | _, _, t, K => K t

def fnK (call : CallK R) (fix : Fix R) (f : FuncId) (args : List AV) (H : Heap) (K : AV → Heap → Option R) : Option R :=
  match P.funcs.toList[f]? with
  | none => none
  | some fn =>
    match fn.body with
    | none => none
    | some c =>
      bif !Nat.ble args.length fn.ntmps then none else
      tmFrom args 0 .leaf fun t => exec P an call f H.next none fix c t H fun ex t H =>
        match ex with
        | .normal => resK P an fn.results.toList t H K
        | .ret => resK P an fn.results.toList t H K
        | .exit _ => none
/-- The end of a round. -/
def roundEnd (l : Nat) (ex : Ex) (H : Heap) (K : AV → Heap → Option R) : Option R :=
  match H.get l with
  | some (.loop rc) =>
    match ex with
    | .normal => an.pr.put H l (.loop { rc with busy := false, done := false, pend := none }) fun H => K (.bool true) H
    | .ret => an.pr.put H l (.loop { rc with busy := false, done := true, pend := some .ret }) fun H => K (.bool false) H
    | .exit id => an.pr.put H l (.loop { rc with busy := false, done := true, pend := some (.exit id) }) fun H => K (.bool false) H
  | _ => none
/-- The begin of a round, behind the variables' assignment. -/
def roundBegin (l : Nat) (H : Heap) (K : Heap → Option R) : Option R :=
  match H.get l with
  | some (.loop rc) => bif rc.busy || rc.done then none else an.pr.put H l (.loop { rc with busy := true }) K
  | _ => none
/-- The end of a call: is newer memory forgotten? -/
def endK (sw pln : Bool) (n : Nat) (xs : List Nat) (v : AV) (H : Heap) (K : AV → Heap → Option R) : Option R := bif sw then sweepK an pln n xs v H K else K v H
/-- A round. -/
def yieldB (call : CallK R) (fix : Fix R) (l : Nat) (rc : Rec) (args : List AV) (H : Heap) (K : AV → Heap → Option R) : Option R :=
    tmPut rc.params args rc.tmps fun t => exec P an call rc.fn H.next (some l) fix rc.assign t H fun ex t H' =>
      match ex with
      | .normal => roundBegin an l H' fun H' => exec P an call rc.fn H.next (some l) fix rc.body t H' fun ex t H2 => roundEnd an l ex H2 K
      | _ => none
def yieldK (call : CallK R) (fix : Fix R) (l : Nat) (args : List AV) (H : Heap) (K : AV → Heap → Option R) : Option R :=
  match H.get l with
  | some (.loop rc) =>
    bif !Nat.beq args.length rc.params.length then none else
    openK an (accs rc.tmps (an.gro rc.fn (firstRegion rc.body))) H fun H1 => yieldB P an call fix l rc args H1 fun v H2 =>
      endK an (an.swy rc.fn (firstRegion rc.body)) (an.plain rc.fn (firstRegion rc.body)) H.next (accs rc.tmps (an.gro rc.fn (firstRegion rc.body))) v H2 K
  | _ => none
/-- Is the object alone in its block? -/
def soleL (H : Heap) (f o : Nat) : Nat → Bool
  | 0 => true
  | j + 1 => (match H.get j with | some (.cells _ (some (g, _)) _) => Nat.beq j o || !Nat.beq g f | _ => true) && soleL H f o j
def soleB (H : Heap) (fam : Option (Nat × Nat)) (o : Nat) : Bool := match fam with | none => true | some (f, _) => soleL H f o H.next
/-- A call of a function that writes, known. -/
def mrcK (m : Mrc) (args : List AV) (H : Heap) (K : AV → Heap → Option R) : Option R :=
  match args[m.arg]? with
  | some (.slice .nil) => (m.dec (bif m.flat then args.map (resA H [] 8) else args)).bind fun a => match m.out a with | [] => K (m.val a) H | _ => none
  | some (.slice (.mk o off len _ es)) =>
    match H.get o with
    | some (.cells c fam false) =>
      bif !(Nat.beq off 0 && Nat.beq (len * es) c.length && soleB H fam o) then none else
      (m.dec ((bif m.flat then args.map (resA H [idOf o fam] 8) else args).set m.arg (.frz c len none es))).bind fun a =>
        bif !Nat.beq (m.out a).length c.length then none else
        an.pr.avs (m.out a) fun c' => an.pr.put H o (.cells c' fam false) fun H2 => K (m.val a) H2
    | _ => none
  | some (.ptr (some (o, off))) =>
    match H.get o with
    | some (.cells c fam false) =>
      bif !soleB H fam o then none else
      (m.dec ((bif m.flat then args.map (resA H [idOf o fam] 8) else args).set m.arg (.fptr c off))).bind fun a =>
        bif !Nat.beq (m.out a).length c.length then none else
        an.pr.avs (m.out a) fun c' => an.pr.put H o (.cells c' fam false) fun H2 => K (m.val a) H2
    | _ => none
  | _ => none
/-- A call, given what calls and loops do. -/
def callB (call : CallK R) (fix : Fix R) (f : AV) (args : List AV) (H : Heap) (K : AV → Heap → Option R) : Option R :=
  match f with
  | .fn f first cap => match an.orc f with
    | none => match an.mrc f with
      | none => match an.hor f with
        | none => fnK P an call fix f (first ++ args ++ cap) H fun v H' => endK an (an.swf f) (an.plain f 0) H.next [] v H' K
        | some h => (h.dec (first ++ args ++ cap) H).bind fun a => K (h.val a) (h.heap a)
      | some m => mrcK an m (first ++ args ++ cap) H K
    | some o => (o.dec (bif o.flat then (first ++ args ++ cap).map (resA H [] 8) else first ++ args ++ cap)).bind fun a => K (o.val a) H
  | .yield l => yieldK P an call fix l args H K
  | _ => none

def fixN {R : Type} : Nat → Fix R
  | 0, _, _, _ => none
  | k + 1, F, t, H => F (fixN k F) t H

def callV : Nat → AV → List AV → Heap → Option (AV × Heap)
  | 0, _, _, _ => none
  | k + 1, f, args, H => callB P an (bindCall (callV k)) (fixN k) f args H fun v H => some (v, H)
/-- The same, going on with what it gives. -/
def callC : Nat → (R : Type) → CallK R
  | 0, _, _, _, _, _ => none
  | k + 1, R, f, args, H, K => callB P an (callC k R) (fixN k) f args H K

end
end Go.Proofs.Ytmbepddfhlcebaa.Am
