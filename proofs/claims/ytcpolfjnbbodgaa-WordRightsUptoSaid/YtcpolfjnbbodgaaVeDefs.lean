/- An evaluator of our own for the model's code: values as the model has them, over a heap of our own (a list of blocks), without tape, orders and capacities. What it tells is proved of the model in XVeSound. Conditions: none here. -/
import Derived.WalkKit
import Derived.Below
import Derived.Deep.Quiet
import Derived.StillTail
namespace Go.Proofs.Ytcpolfjnbbodgaa.Ve
open Go

/-- A block of our heap: cells (own: made by the run, may be written; sz: how many an element of a slice of it has), one that may not be read any more, a map, a string that is ranged over. -/
inductive Blk where
  | cells (c : List Value) (own : Bool) (sz : Nat)
  | dead
  | map (es : List (Value × Value))
  | iter (s : ByteArray) (pos : Nat)
  deriving Inhabited

structure Heap where
  bs : List Blk
  low : Nat

def Heap.get (H : Heap) (b : Nat) : Option Blk := H.bs[b]?
def Heap.next (H : Heap) : Nat := H.bs.length
def Heap.push (H : Heap) (x : Blk) : Heap := ⟨H.bs ++ [x], H.low⟩
def Heap.put (H : Heap) (b : Nat) (x : Blk) : Heap := ⟨H.bs.set b x, min H.low b⟩

abbrev Env := List (Nat × Value)
def Env.get : Env → Nat → Value
  | [], _ => undef
  | (k, v) :: e, t => if k = t then v else Env.get e t

/-! ### values without addresses -/
def na0 : Value → Bool
  | .bool _ | .int _ _ | .string _ | .pointer none | .slice none 0 0 | .map none | .nilFunc | .nilIface => true
  | .func (.func _) f c => f.isEmpty && c.isEmpty
  | _ => false
def na1 : Value → Bool
  | .agg cs => cs.toList.all na0
  | .iface _ v => na0 v
  | v => na0 v
def noAddr : Value → Bool
  | .tuple vs => vs.toList.all na1
  | v => na1 v

/-! ### what is known of types -/
section
variable (P : Program)
def tSize (t : TypeId) : Option Nat := (P.info? t).map (·.size)
def tBytes (t : TypeId) : Option Nat := (P.info? t).map (·.bytes)
def tZeroV (t : TypeId) : Option Value :=
  match (P.info? t).bind (·.zero) with
  | some z => if na1 z then some z else none
  | none => none
def tZero (t : TypeId) : Option (List Value) :=
  match (P.info? t).bind (·.zero) with
  | some z => if z.cells.toList.all na0 && (tSize P t == some z.cells.size) then some z.cells.toList else none
  | none => none
def tAgg (t : TypeId) : Option Bool :=
  match P.underlying t with
  | some (.struct _) | some (.array _ _) => some true
  | some _ => some false
  | none => none
def tBool (t : TypeId) : Bool :=
  match P.underlying t with
  | some .bool => true
  | _ => false
def tElem (t : TypeId) : Option TypeId :=
  match P.underlying t with
  | some (.slice e) => some e
  | _ => none
def tMap (t : TypeId) : Option (TypeId × TypeId) :=
  match P.underlying t with
  | some (.map k e) => some (k, e)
  | _ => none
/-- a struct's field: its place, its type -/
def tFld (t : TypeId) (i : Nat) : Option (Nat × TypeId) :=
  match P.underlying t with
  | some (.struct fs) => (fs[i]?).map fun f => (f.offset, f.type)
  | _ => none
/-- the places of a struct's fields, or an array's elements -/
def tPlc (t : TypeId) : Option (List (Nat × Nat) ⊕ Nat) :=
  match P.underlying t with
  | some (.struct fs) => (fs.toList.mapM fun f => (tSize P f.type).map fun s => (f.offset, s)).map .inl
  | some (.array _ e) => (tSize P e).map .inr
  | _ => none
inductive Leaf where
  | bool | int | str
  deriving DecidableEq
/-- the fields' cells, one behind the other -/
def flatFs (tf : TypeId → Option (List Leaf)) : List Field → Nat → Option (List Leaf)
  | [], _ => some []
  | f :: fs, n =>
    if f.name ≠ "_" ∧ f.offset = n then
      match tf f.type with
      | some m => if tSize P f.type = some m.length then (flatFs tf fs (n + m.length)).map (m ++ ·) else none
      | none => none
    else none
/-- the cells of a type that is compared cell by cell -/
def tFlat : Nat → TypeId → Option (List Leaf)
  | 0, _ => none
  | d + 1, t =>
    match P.underlying t with
    | some .bool => some [.bool]
    | some (.int _) => some [.int]
    | some .string => some [.str]
    | some (.struct fs) => if P.stoodInHeld t then none else flatFs P (tFlat d) fs.toList 0
    | _ => none
def tCmp (t : TypeId) : Option (List Leaf) := if P.eqGuardType P.depth t then none else tFlat P 9 t
/-- the same, of a struct -/
def tCmpS (t : TypeId) : Option (List Leaf) := if tAgg P t == some true then tCmp P t else none
end

def cellEq : Leaf → Value → Value → Option Bool
  | .bool, .bool a, .bool b => some (a == b)
  | .int, .int k a, .int k' b => if k = k' then some (a == b) else none
  | .str, .string a, .string b => some (a == b)
  | _, _, _ => none
def cellsEq : List Leaf → List Value → List Value → Option Bool
  | [], [], [] => some true
  | k :: ks, x :: xs, y :: ys =>
    match cellEq k x y, cellsEq ks xs ys with
    | some a, some b => some (a && b)
    | _, _ => none
  | _, _, _ => none

/-- '==' -/
def eqA (P : Program) (t : TypeId) : Value → Value → Option Bool
  | .bool a, .bool b => if tBool P t then some (a == b) else none
  | .int k a, .int k' b => if k = k' then some (a == b) else none
  | .string a, .string b => some (a == b)
  | .pointer none, .pointer b => match P.underlying t with | some (.pointer _) => some b.isNone | _ => none
  | .pointer (some _), .pointer none => match P.underlying t with | some (.pointer _) => some false | _ => none
  | .slice none _ _, .slice b _ _ => if (tElem P t).isSome then some b.isNone else none
  | .slice (some _) _ _, .slice none _ _ => if (tElem P t).isSome then some false else none
  | .agg xs, .agg ys => match tCmpS P t with | some ks => cellsEq ks xs.toList ys.toList | none => none
  | _, _ => none

/-! ### memory -/
def splice : List Value → Nat → List Value → List Value
  | c, _, [] => c
  | c, o, x :: xs => splice (c.set o x) (o + 1) xs

def ld (P : Program) (t : TypeId) (H : Heap) : Value → Option Value
  | .pointer (some ⟨b, o, none⟩) =>
    match H.get b with
    | some (.cells c _ _) =>
      match tAgg P t with
      | some true =>
        match tSize P t with
        | some s => if o + s ≤ c.length then some (.agg ((c.drop o).take s).toArray) else none
        | none => none
      | some false => c[o]?
      | none => none
    | _ => none
  | _ => none

def sto (P : Program) (t : TypeId) (H : Heap) (a x : Value) : Option Heap :=
  match a with
  | .pointer (some ⟨b, o, none⟩) =>
    match H.get b with
    | some (.cells c true sz) =>
      if tSize P t = some x.cells.toList.length ∧ o + x.cells.toList.length ≤ c.length ∧ x.cells.toList.all Value.oneCell' = true then
        some (H.put b (.cells (splice c o x.cells.toList) true sz))
      else none
    | _ => none
  | _ => none

def fillL (place : Nat → Option (Nat × Nat)) : List Value → List (Nat × Value) → Option (List Value)
  | cells, [] => some cells
  | cells, (i, v) :: rest =>
    match place i with
    | none => none
    | some (off, size) =>
      if v.cells.toList.length ≠ size ∨ off + size > cells.length then none
      else fillL place (splice cells off v.cells.toList) rest

def buildA (P : Program) (t : TypeId) (parts : List (Nat × Value)) : Option Value :=
  match tZero P t, tPlc P t with
  | some z, some (.inl ps) => (fillL (fun i => ps[i]?) z parts).map fun l => .agg l.toArray
  | some z, some (.inr s) => (fillL (fun i => some (i * s, s)) z parts).map fun l => .agg l.toArray
  | _, _ => none

def buildSliceA (P : Program) (H : Heap) (t : TypeId) (len : Nat) (parts : List (Nat × Value)) : Option (Value × Heap) :=
  match tElem P t with
  | some e =>
    match tZero P e with
    | some z =>
      if z.length = 0 ∨ len * z.length > 16777216 ∨ (parts.all fun p => p.2.cells.toList.all Value.oneCell') = false then none else
      match fillL (fun i => some (i * z.length, z.length)) (List.replicate len z).flatten parts with
      | some cs => some (.slice (some ⟨H.next, 0, none⟩) len len, H.push (.cells cs true z.length))
      | none => none
    | none => none
  | none => none

def makeSliceA (P : Program) (H : Heap) (t : TypeId) (l c : Value) : Option (Value × Heap) :=
  match tElem P t, l, c with
  | some e, .int _ n, .int _ m =>
    match tZero P e, tBytes P e with
    | some z, some by' =>
      if z.length ≠ 0 ∧ 0 ≤ n ∧ n ≤ m ∧ m ≤ 9223372036854775807 ∧ (by' : Int) * m ≤ 281474976710656 then
        some (.slice (some ⟨H.next, 0, none⟩) n.toNat (n.toNat + 1), H.push (.cells (List.replicate n.toNat z).flatten true z.length))
      else none
    | _, _ => none
  | _, _, _ => none

/-- the cells of a slice's elements -/
def sliceCells (H : Heap) (size : Nat) : Value → Option (List Value)
  | .slice none 0 _ => some []
  | .slice (some ⟨b, o, none⟩) n _ =>
    if n = 0 then some [] else
    match H.get b with
    | some (.cells cs _ _) => if o + n * size ≤ cs.length then some ((cs.drop o).take (n * size)) else none
    | _ => none
  | _ => none

def byteV (b : UInt8) : Value := .int .u8 b.toNat
def byteOf : Value → Option UInt8
  | .int .u8 n => some (UInt8.ofNat n.toNat)
  | _ => none

/-- what is appended: how many elements, their cells -/
def addedA (P : Program) (H : Heap) (size : Nat) (xType : Option TypeId) (x : Value) : Option (Nat × List Value) :=
  match xType.bind P.underlying, x with
  | some (.slice _), .slice a n c => (sliceCells H size (.slice a n c)).map fun l => (n, l)
  | some .string, .string s => if size = 1 then some (s.size, s.data.toList.map byteV) else none
  | _, _ => none

def appendA (P : Program) (H : Heap) (ts : List TypeId) (s x : Value) : Option (Value × Option Heap) :=
  match ts.head?.bind (tElem P) with
  | none => none
  | some e =>
    match tSize P e, tBytes P e, tZero P e with
    | some size, some by', some _ =>
      if size = 0 ∨ by' = 0 then none else
      match addedA P H size (ts[1]?) x with
      | none => none
      | some (n, xs) =>
        match s with
        | .slice none 0 0 =>
          if n = 0 then some (s, none)
          else if n * by' ≤ 140737488355328 then some (.slice (some ⟨H.next, 0, none⟩) n (n + 1), some (H.push (.cells xs true size)))
          else none
        | .slice (some ⟨b, o, none⟩) len c =>
          if n = 0 then some (s, none)
          else if (len + n) * by' ≤ 140737488355328 then
            match H.get b with
            | some (.cells cs own sz) =>
              if o + len * size ≤ cs.length ∧ sz = size then
                if c = len then some (.slice (some ⟨H.next, 0, none⟩) (len + n) (len + n + 1), some (H.push (.cells ((cs.drop o).take (len * size) ++ xs) true size)))
                else if own then some (.slice (some ⟨H.next, 0, none⟩) (len + n) (len + n + 1), some ((H.put b .dead).push (.cells ((cs.drop o).take (len * size) ++ xs) true size)))
                else none
              else none
            | _ => none
          else none
        | _ => none
    | _, _, _ => none

def copyA (P : Program) (H : Heap) (ts : List TypeId) (d s : Value) : Option (Value × Option Heap) :=
  match ts.head?.bind (tElem P) with
  | none => none
  | some e =>
    match tSize P e, d with
    | some size, .slice da dn _ =>
      if size = 0 then none else
      match s with
      | .slice sa sn sc =>
        match sliceCells H size (.slice sa sn sc) with
        | some ys =>
          if min sn dn = 0 then some (goInt 0, none) else
          match da with
          | some ⟨b, o, none⟩ =>
            match H.get b with
            | some (.cells cs true sz) => if o + (min sn dn) * size ≤ cs.length then some (goInt (min sn dn : Nat), some (H.put b (.cells (splice cs o (ys.take (min sn dn * size))) true sz))) else none
            | _ => none
          | _ => none
        | none => none
      | _ => none
    | _, _ => none

/-- a bound of a slice expression -/
def bnd : Option Value → Nat → Option Nat
  | none, d => some d
  | some (.int _ i), _ => if 0 ≤ i then some i.toNat else none
  | _, _ => none

def szAt (H : Heap) (b : Nat) : Option Nat :=
  match H.get b with
  | some (.cells _ _ sz) => some sz
  | _ => none

def sliceA (P : Program) (H : Heap) (t : TypeId) (x : Value) (lo hi mx : Option Value) : Option Value :=
  match P.underlying t, x with
  | some .string, .string s =>
    match bnd lo 0, bnd hi s.size, mx with
    | some l, some h, none => if l ≤ h ∧ h ≤ s.size then some (.string (s.extract l h)) else none
    | _, _, _ => none
  | some (.slice e), .slice a n c =>
    match tSize P e, bnd lo 0, bnd hi n with
    | some size, some l, some h =>
      if size = 0 then none else
      if l ≤ h ∧ h ≤ n then
        match mx with
        | none =>
          match a with
          | none => some (.slice none 0 0)
          | some ⟨b, o, none⟩ =>
            if n = 0 then some (.slice (some ⟨b, o, none⟩) 0 c) else
            if szAt H b ≠ some size then none else
            if c = n then (if h = n then some (.slice (some ⟨b, o + l * size, none⟩) (h - l) (h - l)) else none)
            else some (.slice (some ⟨b, o + l * size, none⟩) (h - l) (h - l + 1))
          | _ => none
        | some m =>
          if bnd (some m) 0 = some h ∧ hi.isSome = true then
            match a with
            | none => some (.slice none 0 0)
            | some ⟨b, o, none⟩ => some (.slice (some ⟨b, o + l * size, none⟩) (h - l) (h - l))
            | _ => none
          else none
      else none
    | _, _, _ => none
  | _, _ => none

def indexAddrA (P : Program) (t : TypeId) (x ix : Value) : Option Value :=
  match P.underlying t, x, ix with
  | some (.slice e), .slice (some ⟨b, o, none⟩) n _, .int _ i =>
    match tSize P e with
    | some size => if 0 ≤ i ∧ i < n then some (.pointer (some ⟨b, o + i.toNat * size, none⟩)) else none
    | none => none
  | some (.array n e), .pointer (some ⟨b, o, none⟩), .int _ i =>
    match tSize P e with
    | some size => if 0 ≤ i ∧ i < n then some (.pointer (some ⟨b, o + i.toNat * size, none⟩)) else none
    | none => none
  | _, _, _ => none

def partA (P : Program) (t : TypeId) (cs : List Value) (off : Nat) : Option Value :=
  match tAgg P t, tSize P t with
  | some true, some s => some (.agg ((cs.drop off).take s).toArray)
  | some false, _ => cs[off]?
  | _, _ => none

def indexA (P : Program) (t : TypeId) (x ix : Value) : Option Value :=
  match P.underlying t, x, ix with
  | some (.array n e), .agg cs, .int _ i =>
    match tSize P e with
    | some size => if 0 ≤ i ∧ i < n then partA P e cs.toList (i.toNat * size) else none
    | none => none
  | some .string, .string s, .int _ i => if 0 ≤ i ∧ i < s.size then some (.int .u8 (s.data.toList.getD i.toNat 0).toNat) else none
  | _, _, _ => none

def fieldA (P : Program) (t : TypeId) (x : Value) (i : Nat) : Option Value :=
  match tFld P t i, x with
  | some (off, ft), .agg cs => partA P ft cs.toList off
  | _, _ => none

def fieldAddrA (P : Program) (t : TypeId) (x : Value) (i : Nat) : Option Value :=
  match tFld P t i, x with
  | some (off, ft), .pointer (some ⟨b, o, none⟩) =>
    match tSize P ft with
    | some s => if s = 0 then none else some (.pointer (some ⟨b, o + off, none⟩))
    | none => none
  | _, _ => none

/-! ### maps -/
def keyEq (P : Program) (kt : TypeId) (x y : Value) : Option Bool :=
  match tCmp P kt, tAgg P kt with
  | some ks, some true => match x, y with
    | .agg a, .agg b => cellsEq ks a.toList b.toList
    | _, _ => none
  | some [k], some false => cellEq k x y
  | _, _ => none
def findA (P : Program) (kt : TypeId) (k : Value) : List (Value × Value) → Nat → Option (Option (Nat × Value))
  | [], _ => some none
  | (k', v) :: es, i =>
    match keyEq P kt k k' with
    | some true => some (some (i, v))
    | some false => findA P kt k es (i + 1)
    | none => none

def leafOk : Leaf → Value → Bool
  | .bool, .bool _ | .int, .int _ _ | .str, .string _ => true
  | _, _ => false
def leavesOk : List Leaf → List Value → Bool
  | [], [] => true
  | k :: ks, x :: xs => leafOk k x && leavesOk ks xs
  | _, _ => false
/-- is a value a key of that type? -/
def keyFit (P : Program) (kt : TypeId) (k : Value) : Bool :=
  match tCmp P kt, tAgg P kt, k with
  | some ks, some true, .agg cs => leavesOk ks cs.toList
  | some ks, some false, v => leavesOk ks [v]
  | _, _, _ => false

def lookupA (P : Program) (H : Heap) (t : TypeId) (m k : Value) (ok : Bool) : Option Value :=
  match tMap P t with
  | some (kt, et) =>
    if keyFit P kt k then
      match m with
      | .map (some b) =>
        match H.get b with
        | some (.map es) =>
          match findA P kt k es 0, tZeroV P et with
          | some (some (_, v)), some _ => some (if ok then .tuple #[v, .bool true] else v)
          | some none, some z => some (if ok then .tuple #[z, .bool false] else z)
          | _, _ => none
        | _ => none
      | .map none => (tZeroV P et).map fun z => if ok then .tuple #[z, .bool false] else z
      | _ => none
    else none
  | none => none

def mapUpdateA (P : Program) (H : Heap) (t : TypeId) (m k v : Value) : Option Heap :=
  match tMap P t with
  | some (kt, _) =>
    if keyFit P kt k then
      match m with
      | .map (some b) =>
        match H.get b with
        | some (.map es) =>
          match findA P kt k es 0 with
          | some (some (i, _)) => some (H.put b (.map (es.set i (k, v))))
          | some none => some (H.put b (.map (es ++ [(k, v)])))
          | none => none
        | _ => none
      | _ => none
    else none
  | none => none

/-! ### numbers and texts -/
def binA (P : Program) (op : BinOp) (t : TypeId) (x y : Value) : Option Value :=
  match op with
  | .eql => (eqA P t x y).map .bool
  | .neq => (eqA P t x y).map fun b => .bool !b
  | .shl => match x, y with
    | .int k a, .int _ b => if 0 ≤ b then some (.int k (k.wrap (a * 2 ^ (min b.toNat k.bits)))) else none
    | _, _ => none
  | .shr => match x, y with
    | .int k a, .int _ b => if 0 ≤ b then some (.int k (a.fdiv (2 ^ (min b.toNat k.bits)))) else none
    | _, _ => none
  | _ =>
    match x, y with
    | .int k a, .int k' b =>
      if k = k' then
        match op with
        | .add => some (.int k (k.wrap (a + b)))
        | .sub => some (.int k (k.wrap (a - b)))
        | .mul => some (.int k (k.wrap (a * b)))
        | .quo => if b = 0 then none else some (.int k (k.wrap (a.tdiv b)))
        | .rem => if b = 0 then none else some (.int k (a.tmod b))
        | .and => some (.int k (Go.bits .and k a b))
        | .or => some (.int k (Go.bits .or k a b))
        | .xor => some (.int k (Go.bits .xor k a b))
        | .andNot => some (.int k (Go.bits .andNot k a b))
        | .lss => some (.bool (a < b))
        | .leq => some (.bool (a ≤ b))
        | .gtr => some (.bool (a > b))
        | .geq => some (.bool (a ≥ b))
        | _ => none
      else none
    | .string a, .string b =>
      match op with
      | .add => if a.size + b.size ≤ 9223372036854775807 then some (.string (a ++ b)) else none
      | .lss => some (.bool (Op.bytesLess a.toList b.toList))
      | .leq => some (.bool (Op.bytesLess a.toList b.toList || a.toList == b.toList))
      | .gtr => some (.bool !(Op.bytesLess a.toList b.toList || a.toList == b.toList))
      | .geq => some (.bool !(Op.bytesLess a.toList b.toList))
      | _ => none
    | _, _ => none

def unA (op : UnOp) (x : Value) : Option Value :=
  match op, x with
  | .neg, .int k n => some (.int k (k.wrap (0 - n)))
  | .not, .bool b => some (.bool !b)
  | .xor, .int k n => some (.int k (Go.bits .xor k (if k.signed then -1 else k.max) n))
  | _, _ => none

def convA (P : Program) (H : Heap) (src dst : TypeId) (x : Value) : Option (Value × Option Heap) :=
  match P.underlying src, P.underlying dst, x with
  | some _, some (.int k), .int _ n => some (.int k (k.wrap n), none)
  | some _, some .string, .string s => some (.string s, none)
  | some (.slice e), some .string, .slice a n c =>
    match P.underlying e with
    | some (.int .u8) => match (sliceCells H 1 (.slice a n c)).bind (·.mapM byteOf) with
      | some l => some (.string ⟨l.toArray⟩, none)
      | none => none
    | _ => none
  | some _, some (.slice e), .string s =>
    match P.underlying e with
    | some (.int .u8) => some (.slice (some ⟨H.next, 0, none⟩) s.size (s.size + 1), some (H.push (.cells (s.data.toList.map byteV) true 1)))
    | some (.int .i32) =>
      some (.slice (some ⟨H.next, 0, none⟩) (Conv.runesFrom s s.size 0 #[]).size ((Conv.runesFrom s s.size 0 #[]).size + 1), some (H.push (.cells (Conv.runesFrom s s.size 0 #[]).toList true 1)))
    | _ => none
  | _, _, _ => none

def lenA (P : Program) (H : Heap) (ts : List TypeId) (x : Value) : Option Value :=
  match ts.head?.bind P.underlying, x with
  | some .string, .string s => some (goInt s.size)
  | some (.slice _), .slice _ n _ => some (goInt n)
  | some (.array n _), _ => some (goInt n)
  | some (.map _ _), .map none => some (goInt 0)
  | some (.map _ _), .map (some b) => match H.get b with
    | some (.map es) => some (goInt es.length)
    | _ => none
  | _, _ => none

def minMax (mx : Bool) : List Value → Option Value
  | [.int k a] => some (.int k a)
  | .int k a :: .int k' b :: rest => if k = k' then minMax mx (.int k (if mx then (if b > a then b else a) else (if b < a then b else a)) :: rest) else none
  | _ => none
termination_by l => l.length

/-! ### operations -/
def opv (e : Env) : Operand → Value
  | .tmp t => e.get t
  | .const v => v
  | .func f => .func (.func f) #[] #[]
  | .global _ => undef

/-- what a call answers; the heap, if it has turned -/
abbrev CallF := FuncId → List Value → Heap → Option (Value × Option Heap)

def builtinA (P : Program) (b : Builtin) (ts : List TypeId) (args : List Value) (H : Heap) : Option (Value × Option Heap) :=
  match b, args with
  | .len, [x] => (lenA P H ts x).map fun v => (v, none)
  | .append, [s, x] => appendA P H ts s x
  | .copy, [d, s] => copyA P H ts d s
  | .max, xs => (minMax true xs).map fun v => (v, none)
  | .min, xs => (minMax false xs).map fun v => (v, none)
  | _, _ => none

/-- a call: its value; the heap, if it has turned -/
def callA (P : Program) (C : CallF) (e : Env) (c : Call) (H : Heap) : Option (Value × Option Heap) :=
  match c.callee with
  | .builtin b => builtinA P b c.argTypes.toList (c.args.toList.map (opv e)) H
  | .value f =>
    match opv e f with
    | .func (.func g) first captured => C g (first.toList ++ c.args.toList.map (opv e) ++ captured.toList) H
    | _ => none
  | .invoke _ _ => none

def nextA (H : Heap) (it : Value) : Option (Value × Option Heap) :=
  match it with
  | .pointer (some ⟨b, 0, none⟩) =>
    match H.get b with
    | some (.iter s pos) =>
      if pos < s.size then
        some (.tuple #[.bool true, goInt pos, .int .i32 (Utf8.decode s pos).1], some (H.put b (.iter s (pos + (Utf8.decode s pos).2))))
      else some (.tuple #[.bool false], none)
    | _ => none
  | _ => none

def keep (v : Option Value) : Option (Value × Option Heap) := v.map fun v => (v, none)
def turn (r : Option (Value × Heap)) : Option (Value × Option Heap) := r.map fun (v, H) => (v, some H)

def aop (P : Program) (C : CallF) (o : Op) (e : Env) (H : Heap) : Option (Value × Option Heap) :=
  match o with
  | .move x | .assign x => keep (some (opv e x))
  | .pick c a b => match opv e c with
    | .bool t => keep (some (if t then opv e a else opv e b))
    | _ => none
  | .alloc t => turn ((tZero P t).map fun z => (.pointer (some ⟨H.next, 0, none⟩), H.push (.cells z true 1)))
  | .box _ x => if (opv e x).cells.toList.all Value.oneCell' then turn (some (.pointer (some ⟨H.next, 0, none⟩), H.push (.cells (opv e x).cells.toList true 1))) else none
  | .build t parts => keep (buildA P t (parts.toList.map fun (i, x) => (i, opv e x)))
  | .buildSlice t len parts => turn (buildSliceA P H t len (parts.toList.map fun (i, x) => (i, opv e x)))
  | .load t a => keep (ld P t H (opv e a))
  | .store t a x => turn ((sto P t H (opv e a) (opv e x)).map fun H' => (undef, H'))
  | .nilCheck x => match opv e x with
    | .pointer (some a) => keep (some (.pointer (some a)))
    | .func (.func g) f c => keep (some (.func (.func g) f c))
    | _ => none
  | .binOp op t x y _ => keep (binA P op t (opv e x) (opv e y))
  | .unOp op _ x => keep (unA op (opv e x))
  | .convert s d x => convA P H s d (opv e x)
  | .makeInterface t x => if P.concrete t then keep (some (.iface t (opv e x))) else none
  | .makeFunc fn first captured => match fn with
    | .func g => keep (some (.func (.func g) (first.toList.map (opv e)).toArray (captured.toList.map (opv e)).toArray))
    | _ => none
  | .makeMap _ none => turn (some (.map (some H.next), H.push (.map [])))
  | .makeSlice t l c => turn (makeSliceA P H t (opv e l) (opv e c))
  | .slice t x lo hi mx => keep (sliceA P H t (opv e x) (lo.map (opv e)) (hi.map (opv e)) (mx.map (opv e)))
  | .fieldAddr s x f => keep (fieldAddrA P s (opv e x) f)
  | .field s x f => keep (fieldA P s (opv e x) f)
  | .indexAddr t x ix => keep (indexAddrA P t (opv e x) (opv e ix))
  | .index t x ix => keep (indexA P t (opv e x) (opv e ix))
  | .lookup t m k ok => keep (lookupA P H t (opv e m) (opv e k) ok)
  | .mapUpdate t m k v => turn ((mapUpdateA P H t (opv e m) (opv e k) (opv e v)).map fun H' => (undef, H'))
  | .range t x => match P.underlying t, opv e x with
    | some .string, .string s => turn (some (.pointer (some ⟨H.next, 0, none⟩), H.push (.iter s 0)))
    | _, _ => none
  | .next it true => nextA H (opv e it)
  | .extract x i => match opv e x with
    | .tuple vs => keep (vs.toList[i]?)
    | _ => none
  | .call c => callA P C e c H
  | _ => none

/-! ### code -/
inductive Out where
  | normal
  | exit (id : Nat)
  | ret
  deriving DecidableEq

def isB (v : Value) (b : Bool) : Bool := match v with | .bool c => c == b | _ => false

def wantedA (ops : Array Oper) (e : Env) (o : Oper) : Bool :=
  match o.guard with
  | none => true
  | some (j, b) => match (ops[j]?).bind (·.dst) with
    | some d => isB (e.get d) b
    | none => false

def putA (e : Env) : Option Nat → Value → Env
  | some d, v => (d, v) :: e
  | none, _ => e

/-- the operations of a region, in their text's order -/
def runOps (P : Program) (C : CallF) (ops : Array Oper) : List Oper → Env → Heap → Option (Env × Heap)
  | [], e, H => some (e, H)
  | o :: rest, e, H =>
    if wantedA ops e o then
      match aop P C o.op e H with
      | some (v, none) => runOps P C ops rest (putA e o.dst v) H
      | some (v, some H') => runOps P C ops rest (putA e o.dst v) H'
      | none => none
    else runOps P C ops rest (putA e o.dst undef) H

def isCall : Op → Bool
  | .call { callee := .value _, .. } => true
  | _ => false

/-- operations whose value is the same in each world -/
def pureOp : Op → Bool
  | .move _ | .assign _ | .slice .. => true
  | _ => false
/-- ahead of an operation there are such alone, each of which may be first; behind it there is a chain -/
def pureTailB (ops : Array Oper) (n : Nat) : Bool :=
  Region.noSelect ops && decide (n < ops.size) && (ops.toList.take n).all (fun o => o.guard.isNone && pureOp o.op) && Region.lexHead .any ops (ops.size - n) n 0 (Array.replicate ops.size false)
def tailB (ops : Array Oper) (n : Nat) : Bool := Region.lexTailB .any ops n || pureTailB ops n
/-- a region that draws: operations that turn nothing, or (where no function is called ahead, from some operation on) a chain -/
def runDraw (P : Program) (C : CallF) (ops : Array Oper) : Nat → Bool → List Oper → Env → Heap → Option (Env × Heap)
  | _, _, [], e, H => if Region.lexB .any ops then some (e, H) else none
  | i, q, o :: rest, e, H =>
    if wantedA ops e o then
      match aop P C o.op e H with
      | some (v, none) => runDraw P C ops (i + 1) (q || isCall o.op) rest (putA e o.dst v) H
      | some (v, some H') => if !q && tailB ops i then runOps P C ops rest (putA e o.dst v) H' else none
      | none => none
    else runDraw P C ops (i + 1) q rest (putA e o.dst undef) H

def exec (P : Program) (C : CallF) : Nat → Code → Env → Heap → Option (Out × Env × Heap)
  | 0, _, _, _ => none
  | k + 1, c, e, H =>
    match c with
    | .skip => some (.normal, e, H)
    | .ret => some (.ret, e, H)
    | .exit id => some (.exit id, e, H)
    | .region _ ops draw =>
      match (if draw then runDraw P C ops 0 false ops.toList e H else runOps P C ops ops.toList e H) with
      | some (e', H') => some (.normal, e', H')
      | none => none
    | .seq a b =>
      match exec P C k a e H with
      | some (.normal, e', H') => exec P C k b e' H'
      | r => r
    | .cond x a b =>
      match opv e x with
      | .bool t => exec P C k (if t then a else b) e H
      | _ => none
    | .block id a =>
      match exec P C k a e H with
      | some (.exit i, e', H') => if i = id then some (.normal, e', H') else some (.exit i, e', H')
      | r => r
    | .loop a =>
      match exec P C k a e H with
      | some (.normal, e', H') => exec P C k (.loop a) e' H'
      | r => r
    | .scope a => exec P C k a e H
    | _ => none

/-! ### functions -/
def okOperand : Operand → Bool
  | .const v => noAddr v
  | .global _ => false
  | _ => true
def dstOk (nt : Nat) : Option Nat → Bool
  | some d => decide (d < nt)
  | none => true
def okOps (nt : Nat) (ops : Array Oper) : Bool :=
  ops.toList.all fun o => o.op.operands.toList.all okOperand && dstOk nt o.dst
def okCode (nt : Nat) : Code → Bool
  | .skip | .ret | .exit _ => true
  | .region _ ops _ => okOps nt ops
  | .seq a b => okCode nt a && okCode nt b
  | .cond c a b => okOperand c && okCode nt a && okCode nt b
  | .block _ a | .loop a | .scope a => okCode nt a
  | _ => false

/-- a function that we run: its code, how many temporaries, its results -/
def fnA (P : Program) (f : FuncId) : Option (Code × Nat × List ResultVar) :=
  match P.funcs[f]? with
  | some fn =>
    match fn.body with
    | some c => if okCode fn.ntmps c && (fn.name != "runtime.NumGoroutine") then some (c, fn.ntmps, fn.results.toList) else none
    | none => none
  | none => none

def resultA (P : Program) (e : Env) (H : Heap) : ResultVar → Option Value
  | .tmp t => some (e.get t)
  | .cell a t => ld P t H (e.get a)

def packA : List Value → Value
  | [v] => v
  | vs => .tuple vs.toArray

def envOf : Nat → List Value → Env
  | _, [] => []
  | i, v :: vs => (i, v) :: envOf (i + 1) vs

/-- what is answered, over the heap that the call began with: what the call made falls away where nothing leads to it -/
def finish (v : Value) (H H' : Heap) : Value × Option Heap :=
  if noAddr v && decide (H.bs.length ≤ H'.low) then (v, none) else (v, some ⟨H'.bs, min H.low H'.low⟩)

/-- functions of the library whose contracts are proved elsewhere -/
abbrev Lib := FuncId → Option (List Value → Option Value)

def body (P : Program) (ex : Code → Env → Heap → Option (Out × Env × Heap)) (f : FuncId) (args : List Value) (H : Heap) : Option (Value × Option Heap) :=
  match fnA P f with
  | some (c, nt, rs) =>
    if args.length ≤ nt then
      match ex c (envOf 0 args) ⟨H.bs, H.bs.length⟩ with
      | some (.exit _, _, _) => none
      | some (_, e, H') =>
        match rs.mapM (resultA P e H') with
        | some vs => some (finish (packA vs) H H')
        | none => none
      | none => none
    else none
  | none => none

def call (P : Program) (X : Lib) : Nat → CallF
  | 0, _, _, _ => none
  | k + 1, f, args, H =>
    match X f with
    | some g => (g args).map fun v => (v, none)
    | none => body P (exec P (call P X k) k) f args H
end Go.Proofs.Ytcpolfjnbbodgaa.Ve
