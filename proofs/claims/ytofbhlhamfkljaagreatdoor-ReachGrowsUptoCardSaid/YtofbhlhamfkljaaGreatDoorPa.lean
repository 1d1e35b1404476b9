/- A part of the claim: the evaluator and the contracts. Conditions: none here. -/
import Derived.KernelRfl
import Derived.WalkKit
import Derived.Below
import Derived.Deep.Quiet
import Derived.StillTail
import Derived.Laws.StructEq
import Derived.Laws.Tables
import Derived.Scope
import Derived.LoopN
namespace Go.Proofs.YtofbhlhamfkljaaGreatDoor.Ve
open Go
set_option linter.unusedVariables false
set_option linter.unusedSimpArgs false
set_option maxHeartbeats 0
universe uA
theorem rT{A:Sort uA}{a:A}:a=a:=Eq.trans rfl rfl
theorem aI{a b:Prop}(h:a)(k:b):a∧b:=⟨h,k⟩
abbrev LV:=List Value
abbrev eB:ByteArray:=ByteArray.empty
abbrev nS:Value:= .slice none 0 0
abbrev iV(n:Int):Value:= .int .i64 n
abbrev pT(b:Nat):Value:= .pointer (some ⟨b,0,none⟩)
theorem oM{p:Prop}(h:p:=by omega):p:=h
theorem kR{p:Prop}(h:p:=by kernel_rfl):p:=h
theorem lR{n:Nat}:n≤n:=Nat.le_refl n
theorem iF{A B:Type}{p:A→B→Prop}:∀a b,p a b→p a b:=fun _ _ h=>h
theorem dT{p:Prop}[Decidable p](h:decide p=true):p:=of_decide_eq_true h
theorem dF{p:Prop}[Decidable p](h:decide p=false):¬p:=of_decide_eq_false h
theorem dN{A:Type}{l:List A}{i:Nat}(h:l.length≤i):l.drop i=[]:=List.drop_eq_nil_of_le h
theorem tN(i:Nat):(i:Int).toNat=i:=Int.toNat_natCast i
inductive Blk where
 |cells (c:LV) (own:Bool) (sz:Nat)
 |dead
 |map (es:List (Value×Value))
 |iter (s:ByteArray) (pos:Nat)
 deriving Inhabited
structure d9 where
 bs:List Blk
 low:Nat
def d9.get(H:d9)(b:Nat):Option Blk:=H.bs[b]?
def d9.next(H:d9):Nat:=H.bs.length
def d9.push(H:d9)(x:Blk):d9:=⟨H.bs++[x],H.low⟩
def d9.put(H:d9)(b:Nat)(x:Blk):d9:=⟨H.bs.set b x,min H.low b⟩
abbrev Env:=List (Nat×Value)
def Env.get:Env→Nat→Value
 |[],_=>undef
 |(k,v)::e,t=>if k=t then v else Env.get e t
def na0:Value→Bool
 | .bool _| .int _ _| .string _| .pointer none| .slice none 0 0| .map none| .nilFunc| .nilIface=>true
 | .func (.func _) f c=>f.isEmpty&&c.isEmpty
 |_=>false
def na1:Value→Bool
 | .agg cs=>cs.toList.all na0
 | .iface _ v=>na0 v
 |v=>na0 v
def L0:Value→Bool
 | .tuple vs=>vs.toList.all na1
 |v=>na1 v
section
variable(P:Program)
def z9(t:TypeId):Option Nat:=(P.info? t).map (·.size)
def A7(t:TypeId):Option Nat:=(P.info? t).map (·.bytes)
def C2(t:TypeId):Option Value:=
 match(P.info? t).bind (·.zero)with
 |some z=>if na1 z then some z else none
 |none=>none
def B8(t:TypeId):Option (LV):=
 match(P.info? t).bind (·.zero)with
 |some z=>if z.cells.toList.all na0&&(z9 P t==some z.cells.size) then some z.cells.toList else none
 |none=>none
def E7(t:TypeId):Option Bool:=
 match P.underlying t with
 |some (.struct _)|some (.array _ _)=>some true
 |some _=>some false
 |none=>none
def rY(t:TypeId):Bool:=
 match P.underlying t with
 |some .bool=>true
 |_=>false
def I2(t:TypeId):Option TypeId:=
 match P.underlying t with
 |some (.slice e)=>some e
 |_=>none
def rZ(t:TypeId):Option (TypeId×TypeId):=
 match P.underlying t with
 |some (.map k e)=>some (k,e)
 |_=>none
def E0(t:TypeId)(i:Nat):Option (Nat×TypeId):=
 match P.underlying t with
 |some (.struct fs)=>(fs[i]?).map fun f=>(f.offset,f.type)
 |_=>none
def bL(t:TypeId):Option (List (Nat×Nat)⊕Nat):=
 match P.underlying t with
 |some (.struct fs)=>(fs.toList.mapM fun f=>(z9 P f.type).map fun s=>(f.offset,s)).map .inl
 |some (.array _ e)=>(z9 P e).map .inr
 |_=>none
inductive D1 where
 |bool|int|str
 deriving DecidableEq
def fG(tf:TypeId→Option (List D1)):List Field→Nat→Option (List D1)
 |[],_=>some []
 |f::fs,n=>
  if f.name≠ "_" ∧f.offset=n then
   match tf f.type with
   |some m=>if z9 P f.type=some m.length then(fG tf fs (n+m.length)).map (m++ ·) else none
   |none=>none
  else none
def U2:Nat→TypeId→Option (List D1)
 |0,_=>none
 |d+1,t=>
  match P.underlying t with
  |some .bool=>some [.bool]
  |some (.int _)=>some [.int]
  |some .string=>some [.str]
  |some (.struct fs)=>if P.stoodInHeld t then none else fG P (U2 d) fs.toList 0
  |_=>none
def eM(t:TypeId):Option (List D1):=if P.eqGuardType P.depth t then none else U2 P 9 t
def eN(t:TypeId):Option (List D1):=if E7 P t==some true then eM P t else none
end
def M6:D1→Value→Value→Option Bool
 | .bool,.bool a,.bool b=>some (a==b)
 | .int,.int k a,.int k' b=>if k=k' then some (a==b) else none
 | .str,.string a,.string b=>some (a==b)
 |_,_,_=>none
def A0:List D1→LV→LV→Option Bool
 |[],[],[]=>some true
 |k::ks,x::xs,y::ys=>
  match M6 k x y,A0 ks xs ys with
  |some a,some b=>some (a&&b)
  |_,_=>none
 |_,_,_=>none
def eqA(P:Program)(t:TypeId):Value→Value→Option Bool
 | .bool a,.bool b=>if rY P t then some (a==b) else none
 | .int k a,.int k' b=>if k=k' then some (a==b) else none
 | .string a,.string b=>some (a==b)
 | .pointer none,.pointer b=>match P.underlying t with|some (.pointer _)=>some b.isNone|_=>none
 | .pointer (some _),.pointer none=>match P.underlying t with|some (.pointer _)=>some false|_=>none
 | .slice none _ _,.slice b _ _=>if(I2 P t).isSome then some b.isNone else none
 | .slice (some _) _ _,.slice none _ _=>if(I2 P t).isSome then some false else none
 | .agg xs,.agg ys=>match eN P t with|some ks=>A0 ks xs.toList ys.toList|none=>none
 |_,_=>none
def splice:LV→Nat→LV→LV
 |c,_,[]=>c
 |c,o,x::xs=>splice (c.set o x) (o+1) xs
def ld(P:Program)(t:TypeId)(H:d9):Value→Option Value
 | .pointer (some ⟨b,o,none⟩)=>
  match H.get b with
  |some (.cells c _ _)=>
   match E7 P t with
   |some true=>
    match z9 P t with
    |some s=>if o+s≤c.length then some (.agg ((c.drop o).take s).toArray) else none
    |none=>none
   |some false=>c[o]?
   |none=>none
  |_=>none
 |_=>none
def sto(P:Program)(t:TypeId)(H:d9)(a x:Value):Option d9:=
 match a with
 | .pointer (some ⟨b,o,none⟩)=>
  match H.get b with
  |some (.cells c true sz)=>
   if z9 P t=some x.cells.toList.length∧o+x.cells.toList.length≤c.length∧x.cells.toList.all Value.oneCell'=true then
    some (H.put b (.cells (splice c o x.cells.toList) true sz))
   else none
  |_=>none
 |_=>none
def Q6(place:Nat→Option (Nat×Nat)):LV→List (Nat×Value)→Option (LV)
 |cells,[]=>some cells
 |cells,(i,v)::rest=>
  match place i with
  |none=>none
  |some (off,size)=>
   if v.cells.toList.length≠size∨off+size>cells.length∨v.cells.toList.all Value.oneCell'=false then none
   else Q6 place (splice cells off v.cells.toList) rest
def kl(P:Program)(t:TypeId)(parts:List (Nat×Value)):Option Value:=
 match B8 P t,bL P t with
 |some z,some (.inl ps)=>(Q6 (fun i=>ps[i]?) z parts).map fun l=> .agg l.toArray
 |some z,some (.inr s)=>(Q6 (fun i=>some (i*s,s)) z parts).map fun l=> .agg l.toArray
 |_,_=>none
def O9(P:Program)(H:d9)(t:TypeId)(len:Nat)(parts:List (Nat×Value)):Option (Value×d9):=
 match I2 P t with
 |some e=>
  match B8 P e with
  |some z=>
   if z.length=0∨len*z.length>16777216∨(parts.all fun p=>p.2.cells.toList.all Value.oneCell')=false then none else
   match Q6 (fun i=>some (i*z.length,z.length)) (List.replicate len z).flatten parts with
   |some cs=>some (.slice (some ⟨H.next,0,none⟩) len len,H.push (.cells cs true z.length))
   |none=>none
  |none=>none
 |none=>none
def V3(P:Program)(H:d9)(t:TypeId)(l c:Value):Option (Value×d9):=
 match I2 P t,l,c with
 |some e,.int _ n,.int _ m=>
  match B8 P e,A7 P e with
  |some z,some by'=>
   if z.length≠0∧0≤n∧n≤m∧m≤9223372036854775807∧(by':Int)*m≤281474976710656 then
    some (.slice (some ⟨H.next,0,none⟩) n.toNat (n.toNat+1),H.push (.cells (List.replicate n.toNat z).flatten true z.length))
   else none
  |_,_=>none
 |_,_,_=>none
def A3(H:d9)(size:Nat):Value→Option (LV)
 | .slice none 0 _=>some []
 | .slice (some ⟨b,o,none⟩) n _=>
  if n=0 then some [] else
  match H.get b with
  |some (.cells cs _ _)=>if o+n*size≤cs.length then some ((cs.drop o).take (n*size)) else none
  |_=>none
 |_=>none
def P9(b:UInt8):Value:= .int .u8 b.toNat
def bB:Value→Option UInt8
 | .int .u8 n=>some (UInt8.ofNat n.toNat)
 |_=>none
def Z4(P:Program)(H:d9)(size:Nat)(xType:Option TypeId)(x:Value):Option (Nat×LV):=
 match xType.bind P.underlying,x with
 |some (.slice _),.slice a n c=>(A3 H size (.slice a n c)).map fun l=>(n,l)
 |some .string,.string s=>if size=1 then some (s.size,s.data.toList.map P9) else none
 |_,_=>none
def C3(P:Program)(H:d9)(ts:List TypeId)(s x:Value):Option (Value×Option d9):=
 match ts.head?.bind (I2 P)with
 |none=>none
 |some e=>
  match z9 P e,A7 P e,B8 P e with
  |some size,some by',some _=>
   if size=0∨by'=0 then none else
   match Z4 P H size (ts[1]?) x with
   |none=>none
   |some (n,xs)=>
    match s with
    | .slice none 0 0=>
     if n=0 then some (s,none)
     else if n*by'≤140737488355328 then some (.slice (some ⟨H.next,0,none⟩) n (n+1),some (H.push (.cells xs true size)))
     else none
    | .slice (some ⟨b,o,none⟩) len c=>
     if n=0 then some (s,none)
     else if(len+n)*by'≤140737488355328 then
      match H.get b with
      |some (.cells cs own sz)=>
       if o+len*size≤cs.length∧sz=size then
        if c=len then some (.slice (some ⟨H.next,0,none⟩) (len+n) (len+n+1),some (H.push (.cells ((cs.drop o).take (len*size)++xs) true size)))
        else if own then some (.slice (some ⟨H.next,0,none⟩) (len+n) (len+n+1),some ((H.put b .dead).push (.cells ((cs.drop o).take (len*size)++xs) true size)))
        else none
       else none
      |_=>none
     else none
    |_=>none
  |_,_,_=>none
def je(P:Program)(H:d9)(ts:List TypeId)(d s:Value):Option (Value×Option d9):=
 match ts.head?.bind (I2 P)with
 |none=>none
 |some e=>
  match z9 P e,d with
  |some size,.slice da dn _=>
   if size=0 then none else
   match s with
   | .slice sa sn sc=>
    match A3 H size (.slice sa sn sc)with
    |some ys=>
     if min sn dn=0 then some (goInt 0,none) else
     match da with
     |some ⟨b,o,none⟩=>
      match H.get b with
      |some (.cells cs true sz)=>if o+(min sn dn)*size≤cs.length then some (goInt (min sn dn:Nat),some (H.put b (.cells (splice cs o (ys.take (min sn dn*size))) true sz))) else none
      |_=>none
     |_=>none
    |none=>none
   |_=>none
  |_,_=>none
def bnd:Option Value→Nat→Option Nat
 |none,d=>some d
 |some (.int _ i),_=>if 0≤i then some i.toNat else none
 |_,_=>none
def yH(H:d9)(b:Nat):Option Nat:=
 match H.get b with
 |some (.cells _ _ sz)=>some sz
 |_=>none
def Y7(P:Program)(H:d9)(t:TypeId)(x:Value)(lo hi mx:Option Value):Option Value:=
 match P.underlying t,x with
 |some .string,.string s=>
  match bnd lo 0,bnd hi s.size,mx with
  |some l,some h,none=>if l≤h∧h≤s.size then some (.string (s.extract l h)) else none
  |_,_,_=>none
 |some (.slice e),.slice a n c=>
  match z9 P e,bnd lo 0,bnd hi n with
  |some size,some l,some h=>
   if size=0 then none else
   if l≤h∧h≤n then
    match mx with
    |none=>
     match a with
     |none=>some (.slice none 0 0)
     |some ⟨b,o,none⟩=>
      if n=0 then some (.slice (some ⟨b,o,none⟩) 0 c) else
      if yH H b≠some size then none else
      if c=n then(if h=n then some (.slice (some ⟨b,o+l*size,none⟩) (h-l) (h-l)) else none)
      else some (.slice (some ⟨b,o+l*size,none⟩) (h-l) (h-l+1))
     |_=>none
    |some m=>
     if bnd (some m) 0=some h∧hi.isSome=true then
      match a with
      |none=>some (.slice none 0 0)
      |some ⟨b,o,none⟩=>some (.slice (some ⟨b,o+l*size,none⟩) (h-l) (h-l))
      |_=>none
     else none
   else none
  |_,_,_=>none
 |_,_=>none
def R9(P:Program)(t:TypeId)(x ix:Value):Option Value:=
 match P.underlying t,x,ix with
 |some (.slice e),.slice (some ⟨b,o,none⟩) n _,.int _ i=>
  match z9 P e with
  |some size=>if 0≤i∧i<n then some (.pointer (some ⟨b,o+i.toNat*size,none⟩)) else none
  |none=>none
 |some (.array n e),.pointer (some ⟨b,o,none⟩),.int _ i=>
  match z9 P e with
  |some size=>if 0≤i∧i<n then some (.pointer (some ⟨b,o+i.toNat*size,none⟩)) else none
  |none=>none
 |_,_,_=>none
def fq(P:Program)(t:TypeId)(cs:LV)(off:Nat):Option Value:=
 match E7 P t,z9 P t with
 |some true,some s=>some (.agg ((cs.drop off).take s).toArray)
 |some false,_=>cs[off]?
 |_,_=>none
def eo(P:Program)(t:TypeId)(x ix:Value):Option Value:=
 match P.underlying t,x,ix with
 |some (.array n e),.agg cs,.int _ i=>
  match z9 P e with
  |some size=>if 0≤i∧i<n then fq P e cs.toList (i.toNat*size) else none
  |none=>none
 |some .string,.string s,.int _ i=>if 0≤i∧i<s.size then some (.int .u8 (s.data.toList.getD i.toNat 0).toNat) else none
 |_,_,_=>none
def iA(P:Program)(t:TypeId)(x:Value)(i:Nat):Option Value:=
 match E0 P t i,x with
 |some (off,ft),.agg cs=>fq P ft cs.toList off
 |_,_=>none
def Z7(P:Program)(t:TypeId)(x:Value)(i:Nat):Option Value:=
 match E0 P t i,x with
 |some (off,ft),.pointer (some ⟨b,o,none⟩)=>
  match z9 P ft with
  |some s=>if s=0 then none else some (.pointer (some ⟨b,o+off,none⟩))
  |none=>none
 |_,_=>none
def qS(P:Program)(kt:TypeId)(x y:Value):Option Bool:=
 match eM P kt,E7 P kt with
 |some ks,some true=>match x,y with
  | .agg a,.agg b=>A0 ks a.toList b.toList
  |_,_=>none
 |some [k],some false=>M6 k x y
 |_,_=>none
def ji(P:Program)(kt:TypeId)(k:Value):List (Value×Value)→Nat→Option (Option (Nat×Value))
 |[],_=>some none
 |(k',v)::es,i=>
  match qS P kt k k' with
  |some true=>some (some (i,v))
  |some false=>ji P kt k es (i+1)
  |none=>none
def kV:D1→Value→Bool
 | .bool,.bool _| .int,.int _ _| .str,.string _=>true
 |_,_=>false
def T9:List D1→LV→Bool
 |[],[]=>true
 |k::ks,x::xs=>kV k x&&T9 ks xs
 |_,_=>false
def Z8(P:Program)(kt:TypeId)(k:Value):Bool:=
 match eM P kt,E7 P kt,k with
 |some ks,some true,.agg cs=>T9 ks cs.toList
 |some ks,some false,v=>T9 ks [v]
 |_,_,_=>false
def eY(P:Program)(H:d9)(t:TypeId)(m k:Value)(ok:Bool):Option Value:=
 match rZ P t with
 |some (kt,et)=>
  if Z8 P kt k then
   match m with
   | .map (some b)=>
    match H.get b with
    |some (.map es)=>
     match ji P kt k es 0,C2 P et with
     |some (some (_,v)),some _=>some (if ok then .tuple #[v,.bool true] else v)
     |some none,some z=>some (if ok then .tuple #[z,.bool false] else z)
     |_,_=>none
    |_=>none
   | .map none=>(C2 P et).map fun z=>if ok then .tuple #[z,.bool false] else z
   |_=>none
  else none
 |none=>none
def V4(P:Program)(H:d9)(t:TypeId)(m k v:Value):Option d9:=
 match rZ P t with
 |some (kt,_)=>
  if Z8 P kt k then
   match m with
   | .map (some b)=>
    match H.get b with
    |some (.map es)=>
     match ji P kt k es 0 with
     |some (some (i,_))=>some (H.put b (.map (es.set i (k,v))))
     |some none=>some (H.put b (.map (es++[(k,v)])))
     |none=>none
    |_=>none
   |_=>none
  else none
 |none=>none
def E9(P:Program)(op:BinOp)(t:TypeId)(x y:Value):Option Value:=
 match op with
 | .eql=>(eqA P t x y).map .bool
 | .neq=>(eqA P t x y).map fun b=> .bool !b
 | .shl=>match x,y with
  | .int k a,.int _ b=>if 0≤b then some (.int k (k.wrap (a*2 ^ (min b.toNat k.bits)))) else none
  |_,_=>none
 | .shr=>match x,y with
  | .int k a,.int _ b=>if 0≤b then some (.int k (a.fdiv (2 ^ (min b.toNat k.bits)))) else none
  |_,_=>none
 |_=>
  match x,y with
  | .int k a,.int k' b=>
   if k=k' then
    match op with
    | .add=>some (.int k (k.wrap (a+b)))
    | .sub=>some (.int k (k.wrap (a-b)))
    | .mul=>some (.int k (k.wrap (a*b)))
    | .quo=>if b=0 then none else some (.int k (k.wrap (a.tdiv b)))
    | .rem=>if b=0 then none else some (.int k (a.tmod b))
    | .and=>some (.int k (Go.bits .and k a b))
    | .or=>some (.int k (Go.bits .or k a b))
    | .xor=>some (.int k (Go.bits .xor k a b))
    | .andNot=>some (.int k (Go.bits .andNot k a b))
    | .lss=>some (.bool (a<b))
    | .leq=>some (.bool (a≤b))
    | .gtr=>some (.bool (a>b))
    | .geq=>some (.bool (a≥b))
    |_=>none
   else none
  | .string a,.string b=>
   match op with
   | .add=>if a.size+b.size≤9223372036854775807 then some (.string (a++b)) else none
   | .lss=>some (.bool (Op.bytesLess a.toList b.toList))
   | .leq=>some (.bool (Op.bytesLess a.toList b.toList||a.toList==b.toList))
   | .gtr=>some (.bool !(Op.bytesLess a.toList b.toList||a.toList==b.toList))
   | .geq=>some (.bool !(Op.bytesLess a.toList b.toList))
   |_=>none
  |_,_=>none
def unA(op:UnOp)(x:Value):Option Value:=
 match op,x with
 | .neg,.int k n=>some (.int k (k.wrap (0-n)))
 | .not,.bool b=>some (.bool !b)
 | .xor,.int k n=>some (.int k (Go.bits .xor k (if k.signed then -1 else k.max) n))
 |_,_=>none
def W8(P:Program)(H:d9)(src dst:TypeId)(x:Value):Option (Value×Option d9):=
 match P.underlying src,P.underlying dst,x with
 |some _,some (.int k),.int _ n=>some (.int k (k.wrap n),none)
 |some _,some .string,.string s=>some (.string s,none)
 |some (.slice e),some .string,.slice a n c=>
  match P.underlying e with
  |some (.int .u8)=>match(A3 H 1 (.slice a n c)).bind (·.mapM bB)with
   |some l=>some (.string ⟨l.toArray⟩,none)
   |none=>none
  |_=>none
 |some _,some (.slice e),.string s=>
  match P.underlying e with
  |some (.int .u8)=>some (.slice (some ⟨H.next,0,none⟩) s.size (s.size+1),some (H.push (.cells (s.data.toList.map P9) true 1)))
  |some (.int .i32)=>
   some (.slice (some ⟨H.next,0,none⟩) (Conv.runesFrom s s.size 0 #[]).size ((Conv.runesFrom s s.size 0 #[]).size+1),some (H.push (.cells (Conv.runesFrom s s.size 0 #[]).toList true 1)))
  |_=>none
 |_,_,_=>none
def Bi(P:Program)(H:d9)(ts:List TypeId)(x:Value):Option Value:=
 match ts.head?.bind P.underlying,x with
 |some .string,.string s=>some (goInt s.size)
 |some (.slice _),.slice _ n _=>some (goInt n)
 |some (.array n _),_=>some (goInt n)
 |some (.map _ _),.map none=>some (goInt 0)
 |some (.map _ _),.map (some b)=>match H.get b with
  |some (.map es)=>some (goInt es.length)
  |_=>none
 |_,_=>none
def fN(mx:Bool):LV→Option Value
 |[.int k a]=>some (.int k a)
 | .int k a:: .int k' b::rest=>if k=k' then fN mx (.int k (if mx then(if b>a then b else a) else(if b<a then b else a))::rest) else none
 |_=>none
termination_by l=>l.length
def opv(e:Env):Operand→Value
 | .tmp t=>e.get t
 | .const v=>v
 | .func f=> .func (.func f) #[] #[]
 | .global _=>undef
abbrev A5:=FuncId→LV→d9→Option (Value×Option d9)
def D3(P:Program)(b:Builtin)(ts:List TypeId)(args:LV)(H:d9):Option (Value×Option d9):=
 match b,args with
 | .len,[x]=>(Bi P H ts x).map fun v=>(v,none)
 | .append,[s,x]=>C3 P H ts s x
 | .copy,[d,s]=>je P H ts d s
 | .max,xs=>(fN true xs).map fun v=>(v,none)
 | .min,xs=>(fN false xs).map fun v=>(v,none)
 |_,_=>none
def dS(P:Program)(C:A5)(e:Env)(c:Call)(H:d9):Option (Value×Option d9):=
 match c.callee with
 | .builtin b=>D3 P b c.argTypes.toList (c.args.toList.map (opv e)) H
 | .value f=>
  match opv e f with
  | .func (.func g) first captured=>C g (first.toList++c.args.toList.map (opv e)++captured.toList) H
  |_=>none
 | .invoke _ _=>none
def gQ(H:d9)(it:Value):Option (Value×Option d9):=
 match it with
 | .pointer (some ⟨b,0,none⟩)=>
  match H.get b with
  |some (.iter s pos)=>
   if pos<s.size then
    some (.tuple #[.bool true,goInt pos,.int .i32 (Utf8.decode s pos).1],some (H.put b (.iter s (pos+(Utf8.decode s pos).2))))
   else some (.tuple #[.bool false],none)
  |_=>none
 |_=>none
def keep(v:Option Value):Option (Value×Option d9):=v.map fun v=>(v,none)
def turn(r:Option (Value×d9)):Option (Value×Option d9):=r.map fun(v,H)=>(v,some H)
def aop(P:Program)(C:A5)(o:Op)(e:Env)(H:d9):Option (Value×Option d9):=
 match o with
 | .move x| .assign x=>keep (some (opv e x))
 | .pick c a b=>match opv e c with
  | .bool t=>keep (some (if t then opv e a else opv e b))
  |_=>none
 | .alloc t=>turn ((B8 P t).map fun z=>(.pointer (some ⟨H.next,0,none⟩),H.push (.cells z true 1)))
 | .box _ x=>if(opv e x).cells.toList.all Value.oneCell' then turn (some (.pointer (some ⟨H.next,0,none⟩),H.push (.cells (opv e x).cells.toList true 1))) else none
 | .build t parts=>keep (kl P t (parts.toList.map fun(i,x)=>(i,opv e x)))
 | .buildSlice t len parts=>turn (O9 P H t len (parts.toList.map fun(i,x)=>(i,opv e x)))
 | .load t a=>keep (ld P t H (opv e a))
 | .store t a x=>turn ((sto P t H (opv e a) (opv e x)).map fun H'=>(undef,H'))
 | .nilCheck x=>match opv e x with
  | .pointer (some a)=>keep (some (.pointer (some a)))
  | .func (.func g) f c=>keep (some (.func (.func g) f c))
  |_=>none
 | .binOp op t x y _=>keep (E9 P op t (opv e x) (opv e y))
 | .unOp op _ x=>keep (unA op (opv e x))
 | .convert s d x=>W8 P H s d (opv e x)
 | .makeInterface t x=>if P.concrete t then keep (some (.iface t (opv e x))) else none
 | .makeFunc fn first captured=>match fn with
  | .func g=>keep (some (.func (.func g) (first.toList.map (opv e)).toArray (captured.toList.map (opv e)).toArray))
  |_=>none
 | .makeMap _ none=>turn (some (.map (some H.next),H.push (.map [])))
 | .makeSlice t l c=>turn (V3 P H t (opv e l) (opv e c))
 | .slice t x lo hi mx=>keep (Y7 P H t (opv e x) (lo.map (opv e)) (hi.map (opv e)) (mx.map (opv e)))
 | .fieldAddr s x f=>keep (Z7 P s (opv e x) f)
 | .field s x f=>keep (iA P s (opv e x) f)
 | .indexAddr t x ix=>keep (R9 P t (opv e x) (opv e ix))
 | .index t x ix=>keep (eo P t (opv e x) (opv e ix))
 | .lookup t m k ok=>keep (eY P H t (opv e m) (opv e k) ok)
 | .mapUpdate t m k v=>turn ((V4 P H t (opv e m) (opv e k) (opv e v)).map fun H'=>(undef,H'))
 | .range t x=>match P.underlying t,opv e x with
  |some .string,.string s=>turn (some (.pointer (some ⟨H.next,0,none⟩),H.push (.iter s 0)))
  |_,_=>none
 | .next it true=>gQ H (opv e it)
 | .extract x i=>match opv e x with
  | .tuple vs=>if vs.toList.length<9 then keep (vs.toList[i]?) else none
  |_=>none
 | .call c=>dS P C e c H
 |_=>none
inductive Out where
 |normal
 |exit (id:Nat)
 |ret
 deriving DecidableEq
def isB(v:Value)(b:Bool):Bool:=match v with| .bool c=>c==b|_=>false
def D6(ops:Array Oper)(e:Env)(o:Oper):Bool:=
 match o.guard with
 |none=>true
 |some (j,b)=>match(ops[j]?).bind (·.dst)with
  |some d=>isB (e.get d) b
  |none=>false
def lost:Value:= .tuple #[.chan none,.chan none,.chan none,.chan none,.chan none,.chan none,.chan none,.chan none,.chan none]
def tO:Value→Bool
 | .tuple vs=>decide (vs.toList.length=9)
 |_=>false
def U0(ops:Array Oper)(e:Env)(o:Oper):Bool:=
 match o.guard with
 |none=>false
 |some (j,_)=>match(ops[j]?).bind (·.dst)with
  |some d=>tO (e.get d)
  |none=>false
def P7(e:Env):Option Nat→Value→Env
 |some d,v=>(d,v)::e
 |none,_=>e
def C6(P:Program)(C:A5)(ops:Array Oper):List Oper→Env→d9→Option (Env×d9)
 |[],e,H=>some (e,H)
 |o::rest,e,H=>
  if U0 ops e o then none else if D6 ops e o then
   match aop P C o.op e H with
   |some (v,none)=>C6 P C ops rest (P7 e o.dst v) H
   |some (v,some H')=>C6 P C ops rest (P7 e o.dst v) H'
   |none=>none
  else C6 P C ops rest (P7 e o.dst undef) H
def isCall:Op→Bool
 | .call {callee:= .value _,.. }=>true
 |_=>false
def lI:Op→Bool
 | .move _| .assign _| .slice .. =>true
 |_=>false
def pureTailB(ops:Array Oper)(n:Nat):Bool:=
 Region.noSelect ops&&decide (n<ops.size)&&(ops.toList.take n).all (fun o=>o.guard.isNone&&lI o.op)&&Region.lexHead .any ops (ops.size-n) n 0 (Array.replicate ops.size false)
def vS(ops:Array Oper)(n:Nat):Bool:=Region.lexTailB .any ops n||pureTailB ops n
def F9(P:Program)(C:A5)(ops:Array Oper):Nat→Bool→List Oper→Env→d9→Option (Env×d9)
 |_,_,[],e,H=>if Region.lexB .any ops then some (e,H) else none
 |i,q,o::rest,e,H=>
  if U0 ops e o then none else if D6 ops e o then
   match aop P C o.op e H with
   |some (v,none)=>F9 P C ops (i+1) (q||isCall o.op) rest (P7 e o.dst v) H
   |some (v,some H')=>if !q&&vS ops i then C6 P C ops rest (P7 e o.dst v) H' else none
   |none=>none
  else F9 P C ops (i+1) q rest (P7 e o.dst undef) H
def A8:Op→Bool
 | .alloc _| .box .. | .buildSlice .. | .store .. | .makeMap .. | .makeSlice .. | .mapUpdate .. | .range .. | .next .. =>true
 | .call ⟨.value _,_,_⟩=>true
 | .call ⟨.builtin .len,_,_⟩=>false
 | .call ⟨.builtin _,_,_⟩=>true
 |_=>false
def Y2:Op→Bool
 | .alloc _| .buildSlice .. =>true
 |_=>false
def rdK:Op→Bool
 | .load .. | .slice .. | .lookup .. | .convert .. | .call _=>true
 |_=>false
def XD:Op→Bool
 | .call ⟨.value _,_,_⟩=>false
 |o=>A8 o
def R1(o:Oper):List Nat:=(o.after.toList.filter fun e=>Region.binds .any e).map (·.on)
def E6:List Oper→List Nat→List Nat
 |[],acc=>acc
 |o::r,acc=>E6 r (acc++[(R1 o).foldl (fun m d=>m|||(1<<<d)|||acc.getD d 0) 0])
def isAnc(A:List Nat)(i k:Nat):Bool:=(A.getD i 0).testBit k
def jR(ops:Array Oper)(A:List Nat)(i k:Nat)(oi ok:Oper):Bool:=
 (match ok.dst with
  |none=>true
  |some d=>(!(oi.looksAt ops).contains d||(if k<i then isAnc A i k else if i<k then isAnc A k i else false))&&(k==i||oi.dst !=some d)&&
   (!Y2 ok.op||((A8 oi.op&& !Y2 oi.op)|| !(oi.looksAt ops).contains d)))&&
 (!(decide (k<i)&&A8 oi.op&& !Y2 oi.op&&A8 ok.op)||isAnc A i k)
def iI(ops:Array Oper)(A:List Nat)(i:Nat)(oi:Oper):Bool:=
 (R1 oi).all (· <i)&&(List.range ops.size).all (fun k=> !isAnc A i k||(R1 oi).any (fun d=>d==k||isAnc A d k))&&
 (List.range ops.size).all (fun k=>match ops[k]? with|none=>false|some ok=>jR ops A i k oi ok)&&
 (!Y2 oi.op||(oi.guard.isNone&&oi.dst.isSome))
def jt(ops:Array Oper)(A:List Nat):Bool:=
 Region.noSelect ops&&(List.range ops.size).all fun i=>match ops[i]? with|none=>false|some oi=>iI ops A i oi
def Q7(ops:Array Oper):List Nat:=(List.range ops.size).filter fun i=>match ops[i]? with|some o=>A8 o.op|none=>false
def Bp(A tl:List Nat)(i:Nat):Nat×Nat:=((tl.takeWhile fun c=>isAnc A i c).length,(tl.takeWhile fun c=> !isAnc A c i).length)
def ah8(ops:Array Oper):Bool:=(List.range ops.size).any fun i=>match ops[i]? with
 |none=>false
 |some x=>isCall x.op&&A8 x.op&&(ops.toList.drop (i+1)).any fun y=>isCall y.op&&A8 y.op
def pq(ops:Array Oper):Bool:=
 ((List.range ops.size).any fun i=>match ops[i]? with
  |none=>false
  |some o=>(XD o.op&& !vS ops i)||(isCall o.op&&(ops.toList.drop (i+1)).any fun o=>XD o.op))||(ah8 ops&&jt ops (E6 ops.toList []))
def noC:A5:=fun _ _ _=>none
def sS(P:Program):List (Op×Env×Value×Nat)→Nat→d9→Prop
 |[],_,_=>True
 |(o,e,v,hi)::r,j,H=>(j≤hi→aop P noC o e H=some (v,none))∧sS P r j H
def sR(P:Program)(o:Op)(e:Env)(v:Value)(lo:Nat):List (Nat×d9)→Prop
 |[]=>True
 |(j,K)::r=>(lo≤j→aop P noC o e K=some (v,none))∧sR P o e v lo r
open Classical in
noncomputable def I0(P:Program)(C:A5)(ops:Array Oper):Nat→List (Nat×d9)→List (Op×Env×Value×Nat)→List (Oper×Nat×Nat)→Env→d9→Option (Env×d9)
 |_,_,_,[],e,H=>some (e,H)
 |t,Ks,obs,(o,lo,hi)::rest,e,H=>
  if U0 ops e o then none else if D6 ops e o then
   if A8 o.op then
    match aop P C o.op e H with
    |some (v,r)=>if sS P obs (t+1) (r.getD H) then I0 P C ops (t+1) ((t,H)::Ks) obs rest (P7 e o.dst v) (r.getD H) else none
    |none=>none
   else
    match aop P noC o.op e H with
    |some (v,none)=>if rdK o.op then(if sR P o.op e v lo Ks then I0 P C ops t Ks ((o.op,e,v,hi)::obs) rest (P7 e o.dst v) H else none) else I0 P C ops t Ks obs rest (P7 e o.dst v) H
    |_=>none
  else if A8 o.op then I0 P C ops (t+1) ((t,H)::Ks) obs rest (P7 e o.dst undef) H
  else I0 P C ops t Ks obs rest (P7 e o.dst undef) H
def gL(ops:Array Oper):List (Oper×Nat×Nat):=ops.toList.zipIdx.map fun q=>(q.1,Bp (E6 ops.toList []) (Q7 ops) q.2)
noncomputable def Z2(P:Program)(C:A5)(ops:Array Oper)(e:Env)(H:d9):Option (Env×d9):=
 if pq ops then(if jt ops (E6 ops.toList []) then I0 P C ops 0 [] [] (gL ops) e H else none) else F9 P C ops 0 false ops.toList e H
def bD:Code→List Nat
 | .region _ ops _=>ops.toList.filterMap (·.dst)
 | .seq a b=>bD a++bD b
 | .cond _ a b=>bD a++bD b
 | .block _ a| .loop a| .scope a=>bD a
 |_=>[]
def EI:Op→Bool
 | .alloc _=>true
 |_=>false
def vL:Op→Bool
 | .store _ _ _=>true
 |_=>false
def Nq:Op→Bool
 | .load _ _=>true
 |_=>false
def dp(ops:Array Oper)(listed:List Bool)(rs:List Nat):Bool:=decide (Region.ready .any ops listed.toArray=rs)
def vo(ops:Array Oper):Bool:=
 match ops.toList with
 |[o0,o1,o2,o3]=>EI o0.op&&vL o1.op&&vL o2.op&&Nq o3.op&&decide (o0.guard=none)&&dp ops [false,false,false,false] [0]&&dp ops [true,false,false,false] [1,2]&&
   dp ops [true,true,false,false] [2]&&dp ops [true,false,true,false] [1]&&dp ops [true,true,true,false] [3]&&dp ops [true,true,true,true] []
 |_=>false
structure GR where
 ops:Array Oper
 l1:List Oper
 l2:List Oper
 ds:List Nat
def dW(a b:Code):Option GR:=
 match a with
 | .region _ ops true=>match ops.toList with
  |[o0,o1,o2,o3]=>if vo ops then some ⟨ops,[o0,o1,o2,o3],[o0,o2,o1,o3],ops.toList.filterMap (·.dst)++bD b⟩ else none
  |_=>none
 |_=>none
def L9(n:Nat)(H:d9):d9:=(H.put n .dead).put (n+1) .dead
open Classical in
noncomputable def kQ(ds:List Nat)(e:Env)(n:Nat)(x y:Option (Out×Env×d9)):Option (Out×Env×d9):=
 match x,y with
 |some (.normal,_,H1),some (.normal,_,H2)=>if L9 n H1=L9 n H2 then some (.normal,ds.map (fun d=>(d,lost))++e,L9 n H1) else none
 |_,_=>none
noncomputable def I7(P:Program)(C:A5):Nat→Code→Env→d9→Option (Out×Env×d9)
 |0,_,_,_=>none
 |k+1,c,e,H=>
  match c with
  | .skip=>some (.normal,e,H)
  | .ret=>some (.ret,e,H)
  | .exit id=>some (.exit id,e,H)
  | .region _ ops draw=>
   match(if draw then Z2 P C ops e H else C6 P C ops ops.toList e H)with
   |some (e',H')=>some (.normal,e',H')
   |none=>none
  | .seq a b=>
   match dW a b with
   |some z=>
    match C6 P C z.ops z.l1 e H,C6 P C z.ops z.l2 e H with
    |some (e1,H1),some (e2,H2)=>kQ z.ds e H.next (I7 P C k b e1 H1) (I7 P C k b e2 H2)
    |_,_=>none
   |none=>
    match I7 P C k a e H with
    |some (.normal,e',H')=>I7 P C k b e' H'
    |r=>r
  | .cond x a b=>
   match opv e x with
   | .bool t=>I7 P C k (if t then a else b) e H
   |_=>none
  | .block id a=>
   match I7 P C k a e H with
   |some (.exit i,e',H')=>if i=id then some (.normal,e',H') else some (.exit i,e',H')
   |r=>r
  | .loop a=>
   match I7 P C k a e H with
   |some (.normal,e',H')=>I7 P C k (.loop a) e' H'
   |r=>r
  | .scope a=>I7 P C k a e H
  |_=>none
def C4:Operand→Bool
 | .const v=>L0 v
 | .global _=>false
 |_=>true
def dD(nt:Nat):Option Nat→Bool
 |some d=>decide (d<nt)
 |none=>true
def dG(nt:Nat)(ops:Array Oper):Bool:=
 ops.toList.all fun o=>o.op.operands.toList.all C4&&dD nt o.dst
def F8(nt:Nat):Code→Bool
 | .skip| .ret| .exit _=>true
 | .region _ ops _=>dG nt ops
 | .seq a b=>F8 nt a&&F8 nt b
 | .cond c a b=>C4 c&&F8 nt a&&F8 nt b
 | .block _ a| .loop a| .scope a=>F8 nt a
 |_=>false
def gR:Op→Bool
 | .defer _=>false
 |_=>true
def E5:Code→Bool
 | .skip| .ret| .exit _=>true
 | .region _ ops draw=>ops.toList.all (fun o=>gR o.op)&&(!draw||(pq ops&&jt ops (E6 ops.toList [])))
 | .seq a b=>(dW a b).isNone&&E5 a&&E5 b
 | .cond _ a b=>E5 a&&E5 b
 | .block _ a| .loop a=>E5 a
 |_=>false
def fnA(P:Program)(f:FuncId):Option (Code×Nat×List ResultVar):=
 match P.funcs[f]? with
 |some fn=>
  match fn.body with
  |some c=>if F8 fn.ntmps c&&(fn.name != "runtime.NumGoroutine") then some (c,fn.ntmps,fn.results.toList) else none
  |none=>none
 |none=>none
def L3(P:Program)(e:Env)(H:d9):ResultVar→Option Value
 | .tmp t=>some (e.get t)
 | .cell a t=>ld P t H (e.get a)
def aA:LV→Value
 |[v]=>v
 |vs=> .tuple vs.toArray
def D8:Nat→LV→Env
 |_,[]=>[]
 |i,v::vs=>(i,v)::D8 (i+1) vs
def D4(v:Value)(H H':d9):Value×Option d9:=
 if L0 v&&decide (H.bs.length≤H'.low) then(v,none) else(v,some ⟨H'.bs,min H.low H'.low⟩)
abbrev Lib:=FuncId→Option (LV→d9→Option (Value×Option d9))
def body(P:Program)(ex:Code→Env→d9→Option (Out×Env×d9))(f:FuncId)(args:LV)(H:d9):Option (Value×Option d9):=
 match fnA P f with
 |some (c,nt,rs)=>
  if args.length≤nt then
   match ex c (D8 0 args) ⟨H.bs,H.bs.length⟩with
   |some (.exit _,_,_)=>none
   |some (_,e,H')=>
    match rs.mapM (L3 P e H')with
    |some vs=>some (D4 (aA vs) H H')
    |none=>none
   |none=>none
  else none
 |none=>none
noncomputable def call(P:Program)(X:Lib):Nat→A5
 |0,_,_,_=>none
 |k+1,f,args,H=>
  match X f with
  |some g=>g args H
  |none=>body P (I7 P (call P X k) k) f args H
end Go.Proofs.YtofbhlhamfkljaaGreatDoor.Ve
namespace Go.Proofs.YtofbhlhamfkljaaGreatDoor.Ve
open Go Go.RowKit
set_option linter.unusedVariables false
set_option linter.unusedSimpArgs false
set_option maxRecDepth 1000000
set_option maxHeartbeats 0
structure Loc where
 blk:Nat
 off:Nat
 cap:Nat
 sz:Nat
def Ext(φ φ':List Loc):Prop:=∀(b:Nat)(l:Loc),φ[b]?=some l→φ'[b]?=some l
theorem Ext.refl(φ:List Loc):Ext φ φ:=fun _ _ h=>h
theorem Ext.trans{a b c:List Loc}(h:Ext a b)(k:Ext b c):Ext a c:=fun _ _ x=>k _ _ (h _ _ x)
theorem Ext.snoc(φ:List Loc)(l:Loc):Ext φ (φ++[l]):=fun b l' h=>by
 rw[List.getElem?_append_left];exact h;exact(List.getElem?_eq_some_iff.1 h).1
inductive VR(φ:List Loc):Value→Value→Prop
 |bool (b:Bool):VR φ (.bool b) (.bool b)
 |int (k:IntKind) (n:Int):VR φ (.int k n) (.int k n)
 |string (s:ByteArray):VR φ (.string s) (.string s)
 |nilptr:VR φ (.pointer none) (.pointer none)
 |ptr {b o:Nat} {l:Loc} (h:φ[b]?=some l):VR φ (.pointer (some ⟨b,o,none⟩)) (.pointer (some ⟨l.blk,l.off+o,none⟩))
 |nilslice:VR φ (.slice none 0 0) (.slice none 0 0)
 |slice0 {a a':Addr} {c:Nat}:VR φ (.slice (some a) 0 c) (.slice (some a') 0 0)
 |exact{b o n:Nat} {l:Loc} (h:φ[b]?=some l):VR φ (.slice (some ⟨b,o,none⟩) n n) (.slice (some ⟨l.blk,l.off+o,none⟩) n n)
 |slice {b o n c:Nat} {l:Loc} (h:φ[b]?=some l) (hn:n≤c) (hc:o+c*l.sz≤l.cap):
   VR φ (.slice (some ⟨b,o,none⟩) n (n+1)) (.slice (some ⟨l.blk,l.off+o,none⟩) n c)
 |nilmap:VR φ (.map none) (.map none)
 |map {b:Nat} {l:Loc} (h:φ[b]?=some l):VR φ (.map (some b)) (.map (some l.blk))
 |nilFunc:VR φ .nilFunc .nilFunc
 |func (f:FuncId) {a a' c c':Array Value} (ha:a.toList.length=a'.toList.length) (h:∀(i:Nat) x y,a.toList[i]?=some x→a'.toList[i]?=some y→VR φ x y)
   (hc:c.toList.length=c'.toList.length) (h':∀(i:Nat) x y,c.toList[i]?=some x→c'.toList[i]?=some y→VR φ x y):VR φ (.func (.func f) a c) (.func (.func f) a' c')
 |nilIface:VR φ .nilIface .nilIface
 |iface (t:TypeId) {v v':Value} (h:VR φ v v'):VR φ (.iface t v) (.iface t v')
 |agg {a a':Array Value} (ha:a.toList.length=a'.toList.length) (h:∀(i:Nat) x y,a.toList[i]?=some x→a'.toList[i]?=some y→VR φ x y):VR φ (.agg a) (.agg a')
 |tuple {a a':Array Value} (ha:a.toList.length=a'.toList.length) (h:∀(i:Nat) x y,a.toList[i]?=some x→a'.toList[i]?=some y→VR φ x y):VR φ (.tuple a) (.tuple a')
 |lost (v:Value):VR φ lost v
def VRs(φ:List Loc)(xs ys:LV):Prop:=xs.length=ys.length∧∀(i:Nat) x y,xs[i]?=some x→ys[i]?=some y→VR φ x y
theorem VR.mono{φ φ':List Loc}(hx:Ext φ φ'){a b:Value}(h:VR φ a b):VR φ' a b:=by
 induction h with
 |bool b=>exact .bool b
 |int k n=>exact .int k n
 |string s=>exact .string s
 |nilptr=>exact .nilptr
 |ptr h=>exact .ptr (hx _ _ h)
 |nilslice=>exact .nilslice
 |slice0=>exact .slice0
 |exact h=>exact .exact (hx _ _ h)
 |slice h hn hc=>exact .slice (hx _ _ h) hn hc
 |nilmap=>exact .nilmap
 |map h=>exact .map (hx _ _ h)
 |nilFunc=>exact .nilFunc
 |func f ha h hc h' ih ih'=>exact .func f ha (fun i x y p q=>ih i x y p q) hc (fun i x y p q=>ih' i x y p q)
 |nilIface=>exact .nilIface
 |iface t h ih=>exact .iface t ih
 |agg ha h ih=>exact .agg ha (fun i x y p q=>ih i x y p q)
 |tuple ha h ih=>exact .tuple ha (fun i x y p q=>ih i x y p q)
 |lost v=>exact .lost v
theorem VRs.mono{φ φ':List Loc}(hx:Ext φ φ'){a b:LV}(h:VRs φ a b):VRs φ' a b:=⟨h.1,fun i x y p q=>(h.2 i x y p q).mono hx⟩
theorem VRs.nil(φ:List Loc):VRs φ [] []:=⟨rfl,fun i x y p=>by simp at p⟩
theorem VRs.cons{φ:List Loc}{x y:Value}{xs ys:LV}(h:VR φ x y)(k:VRs φ xs ys):VRs φ (x::xs) (y::ys):=
 ⟨by simp [k.1],fun i a b p q=>by
  cases i with
  |zero=>simp at p q;subst p;subst q;exact h
  |succ i=>simp at p q;exact k.2 i a b p q⟩
theorem VRs.of_cons{φ:List Loc}{x:Value}{xs zs:LV}(h:VRs φ (x::xs) zs):∃y ys,zs=y::ys∧VR φ x y∧VRs φ xs ys:=by
 cases zs with
 |nil=>have:=h.1;simp at this
 |cons y ys=>
  refine⟨y,ys,rfl,h.2 0 x y (by simp) (by simp),by have:=h.1;simpa using this,fun i a b p q=>h.2 (i+1) a b (by simpa using p) (by simpa using q)⟩
theorem VRs.of_nil{φ:List Loc}{zs:LV}(h:VRs φ [] zs):zs=[]:=by
 have:=h.1;cases zs with
 |nil=>rfl
 |cons _ _=>simp at this
theorem VRs.append{φ:List Loc}{a b c d:LV}(h:VRs φ a b)(k:VRs φ c d):VRs φ (a++c) (b++d):=by
 induction a generalizing b with
 |nil=>rw[h.of_nil];simpa using k
 |cons x xs ih=>obtain⟨y,ys,rfl,h1,h2⟩:=h.of_cons;simpa using VRs.cons h1 (ih h2)
theorem VRs.get{φ:List Loc}{a b:LV}(h:VRs φ a b){i:Nat}{x:Value}(hx:a[i]?=some x):∃y,b[i]?=some y∧VR φ x y:=by
 have hi:i<a.length:=(List.getElem?_eq_some_iff.1 hx).1;have hb:i<b.length:=by rw[←h.1];exact hi
 exact⟨b[i],by simp [hb],h.2 i x b[i] hx (by simp [hb])⟩
theorem VRs.take{φ:List Loc}{a b:LV}(h:VRs φ a b)(n:Nat):VRs φ (a.take n) (b.take n):=
 ⟨by simp [h.1],fun i x y p q=>by
  rw[List.getElem?_take]at p q;split at p
  ·rename_i hi;rw[if_pos hi]at q;exact h.2 i x y p q
  ·simp at p⟩
theorem VRs.drop{φ:List Loc}{a b:LV}(h:VRs φ a b)(n:Nat):VRs φ (a.drop n) (b.drop n):=
 ⟨by simp [h.1],fun i x y p q=>by rw[List.getElem?_drop]at p q;exact h.2 _ x y p q⟩
theorem VRs.map{φ:List Loc}{α:Type}(f g:α→Value)(l:List α)(h:∀x∈l,VR φ (f x) (g x)):VRs φ (l.map f) (l.map g):=by
 induction l with
 |nil=>exact .nil φ
 |cons x xs ih=>exact .cons (h x (by simp)) (ih fun y hy=>h y (by simp [hy]))
theorem VRs.set{φ:List Loc}{a b:LV}(h:VRs φ a b)(i:Nat){x y:Value}(hx:VR φ x y):VRs φ (a.set i x) (b.set i y):=
 ⟨by simp [h.1],fun j p q hp hq=>by
  rw[List.getElem?_set]at hp hq;by_cases hij:i=j
  ·subst hij;rw[if_pos rfl]at hp hq;by_cases hi:i<a.length
   ·rw[if_pos hi]at hp;rw[if_pos (by rw[←h.1];exact hi)]at hq;cases hp;cases hq;exact hx
   ·rw[if_neg hi]at hp;cases hp
  ·rw[if_neg hij]at hp hq;exact h.2 j p q hp hq⟩
theorem VR.toAgg{φ:List Loc}{a b:LV}(h:VRs φ a b):VR φ (.agg a.toArray) (.agg b.toArray):= .agg (by simpa using h.1) (by simpa using h.2)
theorem VR.toTuple{φ:List Loc}{a b:LV}(h:VRs φ a b):VR φ (.tuple a.toArray) (.tuple b.toArray):= .tuple (by simpa using h.1) (by simpa using h.2)
theorem VR.na0{φ:List Loc}{v:Value}(h:na0 v=true):VR φ v v:=by
 unfold Ve.na0 at h;split at h
 ·exact .bool _
 ·exact .int _ _
 ·exact .string _
 ·exact .nilptr
 ·exact .nilslice
 ·exact .nilmap
 ·exact .nilFunc
 ·exact .nilIface
 ·rename_i f a c;simp only[Bool.and_eq_true,Array.isEmpty_iff]at h;obtain⟨rfl,rfl⟩:=h;exact .func _ rfl (fun i x y p=>by simp at p) rfl (fun i x y p=>by simp at p)
 ·cases h
theorem VR.na1{φ:List Loc}{v:Value}(h:na1 v=true):VR φ v v:=by
 unfold Ve.na1 at h;split at h
 ·refine .agg rfl fun i x y p q=>?_;rw[p]at q;cases q;exact VR.na0 (List.all_eq_true.1 h x (List.mem_of_getElem? p))
 ·exact .iface _ (VR.na0 h)
 ·exact VR.na0 h
theorem VR.na{φ:List Loc}{v:Value}(h:L0 v=true):VR φ v v:=by
 unfold L0 at h;split at h
 ·refine .tuple rfl fun i x y p q=>?_;rw[p]at q;cases q;exact VR.na1 (List.all_eq_true.1 h x (List.mem_of_getElem? p))
 ·exact VR.na1 h
theorem VR.undef'(φ:List Loc):VR φ undef undef:=VR.na (by rfl)
theorem VR.eq_na0{φ:List Loc}{v v':Value}(h:VR φ v v')(hn:Ve.na0 v=true):v'=v:=by
 cases h<;>first|rfl|(simp [Ve.na0]at hn;done)|skip
 case func f a a' c c' ha h hc h'=>
  simp only[Ve.na0,Bool.and_eq_true,Array.isEmpty_iff]at hn;obtain⟨rfl,rfl⟩:=hn;have:a'= #[]:=Array.eq_empty_of_size_eq_zero (by simpa using ha.symm);have:c'= #[]:=Array.eq_empty_of_size_eq_zero (by simpa using hc.symm)
  subst_vars;rfl
 case lost=>cases hn
theorem lh{φ:List Loc}{P:Value→Bool}(hP:∀v v',VR φ v v'→P v=true→v'=v) {a b:LV} (h:VRs φ a b) (ha:a.all P=true):b=a:=by
 induction a generalizing b with
 |nil=>exact h.of_nil
 |cons x xs ih=>
  obtain⟨y,ys,rfl,h1,h2⟩:=h.of_cons;simp only[List.all_cons,Bool.and_eq_true]at ha;rw[hP _ _ h1 ha.1,ih h2 ha.2]
theorem VR.eq_na1{φ:List Loc}{v v':Value}(h:VR φ v v')(hn:Ve.na1 v=true):v'=v:=by
 by_cases hg:∃a,v= .agg a
 ·obtain⟨a,rfl⟩:=hg;cases h with
  |agg ha h=>
   rename_i a';have:=lh (fun _ _=>VR.eq_na0) ⟨ha,h⟩ hn;rw[Array.toList_inj.1 this]
 ·by_cases hi:∃t u,v= .iface t u
  ·obtain⟨t,u,rfl⟩:=hi;cases h with
   |iface _ h=>rw[VR.eq_na0 h hn]
  ·refine VR.eq_na0 h ?_;unfold Ve.na1 at hn;split at hn
   ·exact absurd ⟨_,rfl⟩ hg
   ·exact absurd ⟨_,_,rfl⟩ hi
   ·exact hn
theorem VR.eq_na{φ:List Loc}{v v':Value}(h:VR φ v v')(hn:L0 v=true):v'=v:=by
 by_cases hg:∃a,v= .tuple a
 ·obtain⟨a,rfl⟩:=hg;cases h with
  |tuple ha h=>
   have:=lh (fun _ _=>VR.eq_na1) ⟨ha,h⟩ hn;rw[Array.toList_inj.1 this]
  |lost=>cases hn
 ·refine VR.eq_na1 h ?_;unfold L0 at hn;split at hn
  ·exact absurd ⟨_,rfl⟩ hg
  ·exact hn
theorem VR.cells{φ:List Loc}{v v':Value}(h:VR φ v v')(hcc:v.cells.toList.all Value.oneCell'=true):VRs φ v.cells.toList v'.cells.toList:=by
 cases h with
 |agg ha h=>exact⟨ha,h⟩
 |bool b=>exact .cons (.bool b) (.nil φ)
 |int k n=>exact .cons (.int k n) (.nil φ)
 |string s=>exact .cons (.string s) (.nil φ)
 |nilptr=>exact .cons .nilptr (.nil φ)
 |ptr h=>exact .cons (.ptr h) (.nil φ)
 |nilslice=>exact .cons .nilslice (.nil φ)
 |slice0=>exact .cons .slice0 (.nil φ)
 |exact h=>exact .cons (.exact h) (.nil φ)
 |slice h hn hc=>exact .cons (.slice h hn hc) (.nil φ)
 |nilmap=>exact .cons .nilmap (.nil φ)
 |map h=>exact .cons (.map h) (.nil φ)
 |nilFunc=>exact .cons .nilFunc (.nil φ)
 |func f ha h hc h'=>exact .cons (.func f ha h hc h') (.nil φ)
 |nilIface=>exact .cons .nilIface (.nil φ)
 |iface t h=>exact .cons (.iface t h) (.nil φ)
 |tuple ha h=>exact .cons (.tuple ha h) (.nil φ)
 |lost=>cases hcc
theorem VR.oneCell{φ:List Loc}{v v':Value}(h:VR φ v v')(hc:v.oneCell'=true):v'.oneCell'=v.oneCell':=by
 cases h<;>first|rfl|cases hc
structure Bel(base:Nat→Prop)(w w':World):Prop where
 os:w'.os=w.os
 tape:w'.tape=w.tape
 output:w'.output=w.output
 size:w.heap.size≤w'.heap.size
 block:∀k,base k→w'.heap[k]?=w.heap[k]?
theorem Bel.refl(base:Nat→Prop)(w:World):Bel base w w:=⟨rfl,rfl,rfl,lR,fun _ _=>rfl⟩
theorem Bel.drew{base:Nat→Prop}{a w:World}(h:Bel base a w):Bel base a w.drew:=⟨h.os,h.tape,h.output,h.size,h.block⟩
theorem Bel.alloc{base:Nat→Prop}{a w:World}(h:Bel base a w)(hB:∀k,base k→k<w.heap.size) (o:Obj):Bel base a (w.alloc o):=
 ⟨h.os,h.tape,h.output,Nat.le_trans h.size (by simp),fun k hk=>by rw[Below.heap_alloc _ _ _ (hB k hk)];exact h.block k hk⟩
theorem Bel.below{n:Nat}{w w':World}(h:Bel (· <n) w w'):Below n w w':=⟨h.os,h.tape,h.output,h.size,h.block⟩
theorem cG{base:Nat→Prop}{n:Nat}(h:∀k,base k→k<n):¬base n:=fun q=>Nat.lt_irrefl _ (h n q)
structure Bs where
 ro:Nat→Prop
 pr:Nat→Prop
 sub:∀k,ro k→pr k
def Bs.lt(n:Nat):Bs:=⟨(· <n),(· <n),fun _ h=>h⟩
def Blk.mine:Blk→Bool
 | .cells _ own _=>own
 | .dead=>false
 |_=>true
def BR(base:Bs)(φ:List Loc)(B:Blk)(l:Loc)(w:World):Prop:=
 match B with
 | .dead=>True
 | .cells c own sz=>l.sz=sz∧(∀x∈c,x.oneCell'=true)∧(∀(i:Nat) x,c[i]?=some x→∃y,w.cell? ⟨l.blk,l.off+i,none⟩=some y∧VR φ x y)∧
  (own=false→base.ro l.blk)∧
  (own=true→¬base.pr l.blk∧c.length≤l.cap∧∃cs t fz,w.heap[l.blk]?=some (.cells cs t fz)∧l.off+l.cap≤cs.size∧∀i,i<l.off+l.cap→w.frozen? ⟨l.blk,i,none⟩=false)
 | .map es=>¬base.pr l.blk∧∃es' cl,w.heap[l.blk]?=some (.map es' cl)∧es'.size=es.length∧
   ∀(i:Nat) k v m,es[i]?=some (k,v)→es'.toList[i]?=some m→VR φ k m.key∧VR φ v m.val
 | .iter s p=>¬base.pr l.blk∧l.off=0∧w.heap[l.blk]?=some (.stringIter s p)
structure WR(base:Bs)(w0:World)(φ:List Loc)(S:List Blk)(w:World):Prop where
 len:φ.length=S.length
 below:Bel base.pr w0 w
 size:∀k,base.pr k→k<w.heap.size
 blk:∀(b:Nat) B l,S[b]?=some B→φ[b]?=some l→BR base φ B l w
 sep:∀(b b':Nat) B B' l l',b≠b'→S[b]?=some B→S[b']?=some B'→B.mine=true→B'.mine=true→φ[b]?=some l→φ[b']?=some l'→l.blk≠l'.blk
theorem BR.mono{base:Bs}{φ φ':List Loc}{B:Blk}{l:Loc}{w w':World}(hx:Ext φ φ')(hb:w'.heap[l.blk]?=w.heap[l.blk]?)(h:BR base φ B l w):BR base φ' B l w':=by
 have hc:∀i,w'.cell? ⟨l.blk,i,none⟩=w.cell? ⟨l.blk,i,none⟩:=fun i=>World.cell?_of_block (w:=w) hb;have hf:∀i,w'.frozen? ⟨l.blk,i,none⟩=w.frozen? ⟨l.blk,i,none⟩:=fun i=>World.frozen?_of_block (w:=w) hb;cases B with
 |dead=>trivial
 |cells c own sz=>
  obtain⟨h0,hone,h1,h2,h3⟩:=h;refine⟨h0,hone,fun i x hx'=>?_,h2,fun ho=>?_⟩
  ·obtain⟨y,p,q⟩:=h1 i x hx';exact⟨y,by rw[hc];exact p,q.mono hx⟩
  ·obtain⟨a,b,cs,t,fz,c1,c2,c3⟩:=h3 ho;exact⟨a,b,cs,t,fz,by rw[hb];exact c1,c2,fun i hi=>by rw[hf];exact c3 i hi⟩
 |map es=>
  obtain⟨a,es',cl,h1,h2,h3⟩:=h;exact⟨a,es',cl,by rw[hb];exact h1,h2,fun i k v m p q=>⟨(h3 i k v m p q).1.mono hx,(h3 i k v m p q).2.mono hx⟩⟩
 |iter s p=>exact⟨h.1,h.2.1,by rw[hb];exact h.2.2⟩
theorem BR.lt{base:Bs}{φ:List Loc}{B:Blk}{l:Loc}{w:World}(h:BR base φ B l w)(hm:B.mine=true):¬base.pr l.blk∧l.blk<w.heap.size:=by
 have key:∀o,w.heap[l.blk]?=some o→l.blk<w.heap.size:=fun o ho=>(Array.getElem?_eq_some_iff.1 ho).1;cases B with
 |dead=>cases hm
 |cells c own sz=>
  simp only[Blk.mine]at hm;obtain⟨a,b,cs,t,fz,c1,_⟩:=h.2.2.2.2 hm;exact⟨a,key _ c1⟩
 |map es=>obtain⟨a,es',cl,h1,_⟩:=h;exact⟨a,key _ h1⟩
 |iter s p=>exact⟨h.1,key _ h.2.2⟩
theorem BR.below{base:Bs}{φ:List Loc}{c:LV}{sz:Nat}{l:Loc}{w:World}(h:BR base φ (.cells c false sz) l w):base.pr l.blk:=base.sub _ (h.2.2.2.1 rfl)
def But(w w':World)(k:Option Nat):Prop:=w.heap.size≤w'.heap.size∧∀j,j<w.heap.size→k≠some j→w'.heap[j]?=w.heap[j]?
def Fr(φ:List Loc)(S:List Blk)(low:Nat)(w w':World):Prop:=
 ∀(b:Nat) B l,b<low→S[b]?=some B→B≠ .dead→φ[b]?=some l→w'.heap[l.blk]?=w.heap[l.blk]?
structure Cls(base:Bs)(w0:World)(φ:List Loc)(S:List Blk)(w w':World):Prop where
 wr:WR base w0 φ S w'
 same:∀(b:Nat) B l,S[b]?=some B→B≠ .dead→φ[b]?=some l→w'.heap[l.blk]?=w.heap[l.blk]?
theorem WR.cls{base:Bs}{w0:World}{φ:List Loc}{S:List Blk}{w:World}(h:WR base w0 φ S w):Cls base w0 φ S w w:=⟨h,fun _ _ _ _ _ _=>rfl⟩
theorem WR.loc{base:Bs}{w0:World}{φ:List Loc}{S:List Blk}{w:World}(h:WR base w0 φ S w){b:Nat}{B:Blk}(hb:S[b]?=some B):∃l,φ[b]?=some l∧BR base φ B l w:=by
 have hi:b<φ.length:=by rw[h.len];exact(List.getElem?_eq_some_iff.1 hb).1
 exact⟨φ[b],by simp [hi],h.blk b B _ hb (by simp [hi])⟩
theorem WR.same_heap{base:Bs}{w0:World}{φ:List Loc}{S:List Blk}{w w':World}(h:WR base w0 φ S w)(hh:w'.heap=w.heap)(ho:w'.os=w.os)(ht:w'.tape=w.tape)(hu:w'.output=w.output):WR base w0 φ S w':=
 ⟨h.len,⟨ho.trans h.below.os,ht.trans h.below.tape,hu.trans h.below.output,by rw[hh];exact h.below.size,fun k hk=>by rw[hh];exact h.below.block k hk⟩,
  by rw[hh];exact h.size,fun b B l p q=>(h.blk b B l p q).mono (Ext.refl φ) (by rw[hh]),h.sep⟩
theorem WR.push{base:Bs}{w0:World}{φ:List Loc}{S:List Blk}{w w':World}(h:WR base w0 φ S w){B:Blk}{l:Loc}
  (hw:But w w' none) (hb:Bel base.pr w0 w') (hl:B.mine=true→w.heap.size≤l.blk) (hB:BR base (φ++[l]) B l w'):WR base w0 (φ++[l]) (S++[B]) w':=by
 have hx:Ext φ (φ++[l]):=Ext.snoc φ l;have old:∀(b:Nat) B' l',S[b]?=some B'→φ[b]?=some l'→BR base (φ++[l]) B' l' w':=by
  intro b B' l' p q;have hbr:=h.blk b B' l' p q;by_cases hd:B'= .dead
  ·subst hd;trivial
  ·refine hbr.mono hx ?_;by_cases hm:B'.mine=true
   ·exact hw.2 _ (hbr.lt hm).2 (by simp)
   ·cases B' with
    |dead=>exact absurd rfl hd
    |cells c own sz=>
     have:own=false:=by simpa [Blk.mine] using hm
     subst this;exact hw.2 _ (h.size _ hbr.below) (by simp)
    |map es=>exact absurd rfl hm
    |iter s p=>exact absurd rfl hm
 have split:∀(b:Nat) B' l',(S++[B])[b]?=some B'→(φ++[l])[b]?=some l'→(S[b]?=some B'∧φ[b]?=some l')∨(b=S.length∧B'=B∧l'=l):=by
  intro b B' l' p q;by_cases hlt:b<S.length
  ·left
   rw[List.getElem?_append_left hlt]at p;rw[List.getElem?_append_left (by rw[h.len];exact hlt)]at q;exact⟨p,q⟩
  ·right
   have:b<(S++[B]).length:=(List.getElem?_eq_some_iff.1 p).1;simp at this;have hb':b=S.length:=oM;subst hb';have h1:(φ++[l])[S.length]?=some l:=by rw[←h.len];simp
   rw[h1]at q;simp at p q;exact⟨rfl,p.symm,q.symm⟩
 refine⟨by simp [h.len],hb,fun k hk=>Nat.lt_of_lt_of_le (h.size k hk) hw.1,fun b B' l' p q=>?_,fun b b' B1 B2 l1 l2 hne p1 p2 m1 m2 q1 q2=>?_⟩
 ·rcases split b B' l' p q with⟨p,q⟩|⟨rfl,rfl,rfl⟩
  ·exact old b B' l' p q
  ·exact hB
 ·rcases split b B1 l1 p1 q1 with⟨x1,y1⟩|⟨r1,r2,r3⟩<;>rcases split b' B2 l2 p2 q2 with⟨x2,y2⟩|⟨s1,s2,s3⟩
  ·exact h.sep b b' B1 B2 l1 l2 hne x1 x2 m1 m2 y1 y2
  ·have:=((h.blk b B1 l1 x1 y1).lt m1).2;have:=hl (s2▸m2);rw[s3];omega
  ·have:=((h.blk b' B2 l2 x2 y2).lt m2).2;have:=hl (r2▸m1);rw[r3];omega
  ·omega
theorem WR.put{base:Bs}{w0:World}{φ:List Loc}{S:List Blk}{w w':World}(h:WR base w0 φ S w){b:Nat}{B B':Blk}{l:Loc}(hb:S[b]?=some B)(hl:φ[b]?=some l)(hm:B.mine=true)
  (hw:But w w' (some l.blk)) (hbel:Bel base.pr w0 w') (hB:BR base φ B' l w'):WR base w0 φ (S.set b B') w':=by
 have get:∀(c:Nat) C,(S.set b B')[c]?=some C→(c=b∧C=B')∨(c≠b∧S[c]?=some C):=by
  intro c C p;rw[List.getElem?_set]at p;by_cases hcb:b=c
  ·subst hcb;rw[if_pos rfl,if_pos (List.getElem?_eq_some_iff.1 hb).1]at p;exact .inl ⟨rfl,by simpa using p.symm⟩
  ·rw[if_neg hcb]at p;exact .inr ⟨fun e=>hcb e.symm,p⟩
 have hlb:=(h.blk b B l hb hl).lt hm;refine⟨by simp [h.len],hbel,fun k hk=>Nat.lt_of_lt_of_le (h.size k hk) hw.1,fun c C lc p q=>?_,fun c c' C C' lc lc' hne p p' m m' q q'=>?_⟩
 ·rcases get c C p with⟨rfl,rfl⟩|⟨hcb,p⟩
  ·rw[hl]at q;cases q;exact hB
  ·have hbr:=h.blk c C lc p q;by_cases hd:C= .dead
   ·subst hd;trivial
   ·refine hbr.mono (Ext.refl φ) ?_;by_cases hmC:C.mine=true
    ·exact hw.2 _ (hbr.lt hmC).2 (by simp only[ne_eq,Option.some.injEq];exact h.sep b c B C l lc (fun e=>hcb e.symm) hb p hm hmC hl q)
    ·cases C with
     |dead=>exact absurd rfl hd
     |cells cc own sz=>
      have:own=false:=by simpa [Blk.mine] using hmC
      subst this;have:=hbr.below;exact hw.2 _ (h.size _ this) (by simp only[ne_eq,Option.some.injEq];exact fun q=>((h.blk b B l hb hl).lt hm).1 (q▸this))
     |map es=>exact absurd rfl hmC
     |iter s p=>exact absurd rfl hmC
 ·have key:∀(c:Nat) C lc,(S.set b B')[c]?=some C→C.mine=true→φ[c]?=some lc→∃D,S[c]?=some D∧D.mine=true:=by
   intro c C lc p m q;rcases get c C p with⟨rfl,rfl⟩|⟨_,p⟩
   ·exact⟨B,hb,hm⟩
   ·exact⟨C,p,m⟩
  obtain⟨D,d1,d2⟩:=key c C lc p m q;obtain⟨D',d1',d2'⟩:=key c' C' lc' p' m' q';exact h.sep c c' D D' lc lc' hne d1 d1' d2 d2' q q'
theorem WR.kill{base:Bs}{w0:World}{φ:List Loc}{S:List Blk}{w:World}(h:WR base w0 φ S w)(b:Nat):WR base w0 φ (S.set b .dead) w:=by
 have get:∀(c:Nat) C,(S.set b .dead)[c]?=some C→C= .dead∨(c≠b∧S[c]?=some C):=by
  intro c C p;rw[List.getElem?_set]at p;by_cases hcb:b=c
  ·subst hcb;rw[if_pos rfl]at p;split at p
   ·exact .inl (by simpa using p.symm)
   ·cases p
  ·rw[if_neg hcb]at p;exact .inr ⟨fun e=>hcb e.symm,p⟩
 refine⟨by simp [h.len],h.below,h.size,fun c C lc p q=>?_,fun c c' C C' lc lc' hne p p' m m' q q'=>?_⟩
 ·rcases get c C p with rfl|⟨_,p⟩
  ·trivial
  ·exact h.blk c C lc p q
 ·rcases get c C p with rfl|⟨_,p⟩
  ·cases m
  ·rcases get c' C' p' with rfl|⟨_,p'⟩
   ·cases m'
   ·exact h.sep c c' C C' lc lc' hne p p' m m' q q'
theorem WR.cell{base:Bs}{w0:World}{φ:List Loc}{S:List Blk}{w:World}(h:WR base w0 φ S w){b:Nat}{c:LV}{own:Bool}{sz:Nat}(hb:S[b]?=some (.cells c own sz)):
  ∃l ys,φ[b]?=some l∧VRs φ c ys∧(∀w',Cls base w0 φ S w w'→∀(i:Nat) y,ys[i]?=some y→w'.cell? ⟨l.blk,l.off+i,none⟩=some y)∧l.sz=sz:=by
 obtain⟨l,hl,hbr⟩:=h.loc hb;refine⟨l,c.zipIdx.map fun(_,i)=>(w.cell? ⟨l.blk,l.off+i,none⟩).getD undef,hl,⟨by simp,fun i x y p q=>?_⟩,fun w' hc i y q=>?_,hbr.1⟩
 ·obtain⟨z,hz,hv⟩:=hbr.2.2.1 i x p;simp [p,hz]at q;subst q;exact hv
 ·simp only[List.getElem?_map,List.getElem?_zipIdx,Option.map_map,Nat.zero_add]at q;cases hx:c[i]? with
  |none=>simp [hx]at q
  |some x=>
   obtain⟨z,hz,_⟩:=hbr.2.2.1 i x hx;simp [hx,hz]at q;subst q;rw[World.cell?_of_block (w:=w) (hc.same b _ l hb (by simp) hl)];exact hz
end Go.Proofs.YtofbhlhamfkljaaGreatDoor.Ve
namespace Go.Proofs.YtofbhlhamfkljaaGreatDoor.Ve
open Go Go.RowKit
set_option linter.unusedVariables false
set_option linter.unusedSimpArgs false
set_option maxHeartbeats 0
section
variable{P:Program}
theorem B9{t:TypeId}{s:Nat}(h:z9 P t=some s)(w:World):(sizeOf t).run P w= .ok s w:=by
 unfold z9 at h;cases hi:P.info? t with
 |none=>simp [hi]at h
 |some i=>simp [hi]at h;simp [sizeOf,typeInfo,hi,h]
theorem N2{t:TypeId}{b:Bool}(h:E7 P t=some b)(w:World):(isAgg t).run P w= .ok b w:=by
 unfold E7 at h;cases hu:P.underlying t with
 |none=>simp [hu]at h
 |some d=>cases d<;>simp_all [isAgg,run_underlying hu]
theorem Y5{t:TypeId}{z:Value}(h:C2 P t=some z)(w:World):(zeroValue t).run P w= .ok z w∧na1 z=true:=by
 unfold C2 at h;cases hi:P.info? t with
 |none=>simp [hi]at h
 |some i=>
  cases hz:i.zero with
  |none=>simp [hi,hz]at h
  |some z'=>
   simp [hi,hz]at h;obtain⟨h1,rfl⟩:=h;exact⟨by simp [zeroValue,typeInfo,hi,hz],h1⟩
theorem bj{t:TypeId}{z:LV}(h:B8 P t=some z)(w:World):∃zv,(zeroValue t).run P w= .ok zv w∧zv.cells.toList=z∧z.all na0=true∧z9 P t=some z.length:=by
 unfold B8 at h;cases hi:P.info? t with
 |none=>simp [hi]at h
 |some i=>
  cases hz:i.zero with
  |none=>simp [hi,hz]at h
  |some z'=>
   simp only[hi,hz,Option.bind_some]at h;split at h
   ·rename_i hc;cases h;simp only[Bool.and_eq_true,beq_iff_eq]at hc;exact⟨z',by simp [zeroValue,typeInfo,hi,hz],rfl,hc.1,by simpa using hc.2⟩
   ·cases h
theorem VRs.na0{φ:List Loc}{l:LV}(h:l.all na0=true):VRs φ l l:=
 ⟨rfl,fun i x y p q=>by rw[p]at q;cases q;exact VR.na0 (List.all_eq_true.1 h x (List.mem_of_getElem? p))⟩
end
def fW(P:Program)(base:Bs)(w0:World)(φ:List Loc)(S:List Blk)(w:World)(s:Sem Value)(v:Value):Prop:=
 ∃v',VR φ v v'∧∀w',Cls base w0 φ S w w'→s.run P w'= .ok v' w'
section
variable{P:Program}{base:Bs}{w0:World}{φ:List Loc}{S:List Blk}{w:World}
theorem fW.const{s:Sem Value}{v v':Value}(h:VR φ v v')(hs:∀w',s.run P w'= .ok v' w'):fW P base w0 φ S w s v:=⟨v',h,fun w' _=>hs w'⟩
theorem jc{H:d9}(hW:WR base w0 φ H.bs w){b:Nat}{c:LV}{own:Bool}{sz:Nat}(hg:H.get b=some (.cells c own sz)){l:Loc}(hl:φ[b]?=some l):
  ∃ys,VRs φ c ys∧∀w',Cls base w0 φ H.bs w w'→∀(i:Nat) y,ys[i]?=some y→w'.cell? ⟨l.blk,l.off+i,none⟩=some y:=by
 obtain⟨l',ys,hl',hv,hc,_⟩:=hW.cell hg;rw[hl]at hl';cases hl';exact⟨ys,hv,hc⟩
theorem nU{w':World}{b o:Nat}{ys:LV}(h:∀(i:Nat) y,ys[i]?=some y→w'.cell? ⟨b,o+i,none⟩=some y) (n:Nat) (k:Nat) (hk:n+k≤ys.length):
  (loadCells ⟨b,o+n,none⟩ k).run P w'= .ok ((ys.drop n).take k).toArray w':=by
 have hlen:((ys.drop n).take k).length=k:=by simp;omega
 have:=run_loadCells_list (P:=P) w' ⟨b,o+n,none⟩ ((ys.drop n).take k) (fun j v hj=>by
  have hadd:(⟨b,o+n,none⟩:Addr).add j=⟨b,o+n+j,none⟩:=by unfold Addr.add;split<;>simp_all
  rw[hadd,Nat.add_assoc];refine h _ _ ?_;rw[List.getElem?_take]at hj;split at hj
  ·rwa [List.getElem?_drop]at hj
  ·cases hj)
 rwa [hlen]at this
theorem qV{t:TypeId}{H:d9}{a a' v:Value}(hW:WR base w0 φ H.bs w)(h:ld P t H a=some v)(ha:VR φ a a'):fW P base w0 φ H.bs w (Instr.loadAt t a') v:=by
 unfold ld at h;split at h
 rotate_left
 ·cases h
 rename_i b o;split at h
 rotate_left
 ·cases h
 rename_i c own sz hg;cases ha with
 |ptr hl=>
  rename_i l;obtain⟨ys,hv,hc⟩:=jc hW hg hl;split at h
  ·rename_i hagg;split at h
   rotate_left
   ·cases h
   rename_i s hs;split at h
   rotate_left
   ·cases h
   rename_i hlt;cases h;refine⟨.agg ((ys.drop o).take s).toArray,VR.toAgg ((hv.drop o).take s),fun w' hcl=>?_⟩;simp only[Instr.loadAt,Instr.sureAddr,loadVar,Sem.run_bind,Sem.run_pure,Result.andThen_ok,N2 hagg,if_true,B9 hs,
    nU (hc w' hcl) o s (by rw[←hv.1];exact hlt)]
  ·rename_i hagg;obtain⟨y,hy,hr⟩:=hv.get h;refine⟨y,hr,fun w' hcl=>?_⟩;simp only[Instr.loadAt,Instr.sureAddr,loadVar,Sem.run_bind,Sem.run_pure,Result.andThen_ok,N2 hagg,Bool.false_eq_true,if_false,run_load,hc w' hcl o y hy]
  ·cases h
theorem dV{ks ms:List D1}{xs ys:LV}{b:Bool}(h:A0 (ks++ms) xs ys=some b):
  ∃b1 b2,A0 ks (xs.take ks.length) (ys.take ks.length)=some b1∧A0 ms (xs.drop ks.length) (ys.drop ks.length)=some b2∧b=(b1&&b2):=by
 induction ks generalizing xs ys b with
 |nil=>exact⟨true,b,by simp [A0],by simpa using h,by simp⟩
 |cons k ks ih=>
  cases xs with
  |nil=>simp [A0]at h
  |cons x xs=>
   cases ys with
   |nil=>simp [A0]at h
   |cons y ys=>
    simp only[List.cons_append,A0]at h;split at h
    ·rename_i a b' h1 h2;cases h;obtain⟨b1,b2,e1,e2,rfl⟩:=ih h2;exact⟨a&&b1,b2,by simp [A0,h1,e1],by simpa using e2,by rw[Bool.and_assoc]⟩
    ·cases h
theorem bC{ks:List D1}{xs ys:LV}{b:Bool}(h:A0 ks xs ys=some b):xs.length=ks.length∧ys.length=ks.length:=by
 induction ks generalizing xs ys b with
 |nil=>cases xs<;>cases ys<;>simp_all [A0]
 |cons k ks ih=>
  cases xs with
  |nil=>simp [A0]at h
  |cons x xs=>
   cases ys with
   |nil=>simp [A0]at h
   |cons y ys=>
    simp only[A0]at h;split at h
    ·rename_i h2;have:=ih h2;simp [this.1,this.2]
    ·cases h
theorem dZ{d:Nat}{t:TypeId}{ks:List D1}(h:U2 P (d+1) t=some ks)(ha:E7 P t=some false):
  ∃k,ks=[k]∧∀D xv yv b(w:World),M6 k xv yv=some b→(Op.equalIn (D+1) t xv yv).run P w= .ok b w:=by
 unfold U2 at h;unfold E7 at ha;split at h
 ·rename_i hu;cases h;refine⟨_,rfl,fun D xv yv b w hc=>?_⟩;unfold M6 at hc;split at hc<;>first|(simp_all;done)|skip
  cases hc;exact run_equalIn_bool' w D t _ _ hu
 ·rename_i k hu;cases h;refine⟨_,rfl,fun D xv yv b w hc=>?_⟩;unfold M6 at hc;split at hc<;>first|(simp_all;done)|skip
  split at hc
  ·rename_i hk;subst hk;cases hc;exact run_equalIn_int w D t _ k _ _ hu
  ·cases hc
 ·rename_i hu;cases h;refine⟨_,rfl,fun D xv yv b w hc=>?_⟩;unfold M6 at hc;split at hc<;>first|(simp_all;done)|skip
  cases hc;rw[run_equalIn_string w D t _ _ hu,beq_toListBytes]
 ·rename_i hu;simp [hu]at ha
 ·cases h
theorem qF{d:Nat}:∀{t:TypeId}{ks:List D1},U2 P d t=some ks→E7 P t=some true→
  ∀D,d≤D→∀(xs ys:Array Value) b(w:World),A0 ks xs.toList ys.toList=some b→(Op.equalIn D t (.agg xs) (.agg ys)).run P w= .ok b w:=by
 induction d with
 |zero=>intro t ks h;simp [U2]at h
 |succ d ih=>
  intro t ks h ha D hD xs ys b w hc;obtain⟨D,rfl⟩:∃m,D=m+1:=⟨D-1,oM⟩
  unfold U2 at h;unfold E7 at ha;split at h<;>first|(rename_i hu;simp [hu]at ha;done)|(rename_i k hu;simp [hu]at ha;done)|(cases h;done)|skip
  rename_i fs hu;split at h
  ·cases h
  rename_i hst;have hf:P.underlying t=some (.struct (P.fieldsOf t)):=by simp [Program.fieldsOf,hu]
  have hfs:P.fieldsOf t=fs:=by simp [Program.fieldsOf,hu]
  rw[run_equalIn_struct w D t xs ys hf (by simpa using hst),hfs];have key:∀(fl:List Field)(n:Nat)(r:List D1)(b:Bool),fG P (U2 P d) fl n=some r→A0 r (xs.toList.drop n) (ys.toList.drop n)=some b→
    (Op.eqFields D xs ys fl).run P w= .ok b w:=by
   intro fl;induction fl with
   |nil=>intro n r b h1 h2;simp [fG]at h1;subst h1;have:=bC h2;cases hx:xs.toList.drop n<;>cases hy:ys.toList.drop n<;>simp_all [A0,Op.eqFields]
   |cons f fl ihf=>
    intro n r b h1 h2;simp only[fG]at h1;split at h1
    rotate_left
    ·cases h1
    rename_i hn;split at h1
    rotate_left
    ·cases h1
    rename_i m hm;split at h1
    rotate_left
    ·cases h1
    rename_i hs;simp only[Option.map_eq_some_iff]at h1;obtain⟨r',hr',rfl⟩:=h1;obtain⟨b1,b2,e1,e2,rfl⟩:=dV h2;rw[List.drop_drop]at e2;rw[List.drop_drop]at e2;have ihf':=ihf _ _ _ hr' e2;have hln:=bC e1;have hstep:∃a c,(part f.type xs f.offset).run P w= .ok a w∧(part f.type ys f.offset).run P w= .ok c w∧(Op.equalIn D f.type a c).run P w= .ok b1 w:=by
     have hdpos:∃d',d=d'+1:=by cases d with
      |zero=>simp [U2]at hm
      |succ d'=>exact⟨d',rfl⟩
     obtain⟨d',rfl⟩:=hdpos;have hag:∃q,E7 P f.type=some q:=by
      unfold E7;unfold U2 at hm;split at hm<;>rename_i hu'<;>first|exact⟨_,by rw[hu']⟩|cases hm
     obtain⟨q,hq⟩:=hag;cases q with
     |true=>
      refine⟨.agg (xs.extract f.offset (f.offset+m.length)),.agg (ys.extract f.offset (f.offset+m.length)),by simp [part,N2 hq,B9 hs],by simp [part,N2 hq,B9 hs],?_⟩;refine ih hm hq D oM _ _ _ w ?_;rw[hn.2]
      simpa [List.take_drop] using e1
     |false=>
      obtain⟨k,rfl,hk⟩:=dZ hm hq;obtain⟨D',rfl⟩:∃z,D=z+1:=⟨D-1,oM⟩
      simp only[List.length_cons,List.length_nil,Nat.zero_add]at e1 hln;obtain⟨x,hx⟩:∃x,(xs.toList.drop n).take 1=[x]:=List.length_eq_one_iff.1 hln.1;obtain⟨y,hy⟩:∃y,(ys.toList.drop n).take 1=[y]:=List.length_eq_one_iff.1 hln.2;rw[hx,hy]at e1;have hx':xs[f.offset]?=some x:=by
       have:((xs.toList.drop n).take 1)[0]?=some x:=by rw[hx];rfl
       rw[hn.2];simpa [List.getElem?_take,List.getElem?_drop] using this
      have hy':ys[f.offset]?=some y:=by
       have:((ys.toList.drop n).take 1)[0]?=some y:=by rw[hy];rfl
       rw[hn.2];simpa [List.getElem?_take,List.getElem?_drop] using this
      refine⟨x,y,by simp [part,N2 hq,hx'],by simp [part,N2 hq,hy'],hk D' x y b1 w ?_⟩;unfold A0 at e1;split at e1<;>simp_all [A0]
    obtain⟨a,c,s1,s2,s3⟩:=hstep;simp only[Op.eqFields,hn.1,ne_eq,not_false_eq_true,if_true,Sem.run_bind,s1,s2,s3,Result.andThen_ok];cases b1
    ·simp
    ·simpa using ihf'
  exact key fs.toList 0 ks b h (by simpa using hc)
theorem Q1{t:TypeId}{ks:List D1}(h:eM P t=some ks):P.eqGuardType P.depth t=false∧U2 P 9 t=some ks:=by
 unfold eM at h;split at h
 ·cases h
 ·rename_i hq;exact⟨by simpa using hq,h⟩
theorem iz{k:D1}{x y x' y':Value}{b:Bool}(h:M6 k x y=some b)(hx:VR φ x x')(hy:VR φ y y'):x'=x∧y'=y:=by
 unfold M6 at h;split at h<;>first|(cases h;done)|(cases hx;cases hy;exact⟨rfl,rfl⟩)
theorem fC{ks:List D1}{xs ys xs' ys':LV}{b:Bool}(h:A0 ks xs ys=some b)(hx:VRs φ xs xs')(hy:VRs φ ys ys'):xs'=xs∧ys'=ys:=by
 induction ks generalizing xs ys xs' ys' b with
 |nil=>cases xs<;>cases ys<;>simp [A0]at h;exact⟨hx.of_nil,hy.of_nil⟩
 |cons k ks ih=>
  cases xs with
  |nil=>simp [A0]at h
  |cons x xs=>
   cases ys with
   |nil=>simp [A0]at h
   |cons y ys=>
    simp only[A0]at h;split at h
    ·rename_i a c h1 h2;obtain⟨x2,xs2,rfl,p1,p2⟩:=hx.of_cons;obtain⟨y2,ys2,rfl,q1,q2⟩:=hy.of_cons;obtain⟨rfl,rfl⟩:=iz h1 p1 q1;obtain⟨rfl,rfl⟩:=ih h2 p2 q2;exact⟨rfl,rfl⟩
    ·cases h
theorem V7{t e:TypeId}(h:I2 P t=some e):P.underlying t=some (.slice e):=by
 unfold I2 at h;split at h
 ·cases h;assumption
 ·cases h
theorem Df{d:Nat}{t e:TypeId}(hu:P.underlying t=some (.pointer e))(b:Option Addr)(w:World):(Op.equalIn (d+1) t (.pointer none) (.pointer b)).run P w= .ok b.isNone w:=by
 simp [Op.equalIn,run_underlying hu]
theorem Dd{d:Nat}{t e:TypeId}(hu:P.underlying t=some (.pointer e))(a:Addr)(w:World):(Op.equalIn (d+1) t (.pointer (some a)) (.pointer none)).run P w= .ok false w:=by
 simp [Op.equalIn,run_underlying hu]
theorem Dg{d:Nat}{t e:TypeId}(hu:P.underlying t=some (.slice e))(n c m k:Nat)(b:Option Addr)(w:World):(Op.equalIn (d+1) t (.slice none n c) (.slice b m k)).run P w= .ok b.isNone w:=by
 simp [Op.equalIn,run_underlying hu]
theorem De{d:Nat}{t e:TypeId}(hu:P.underlying t=some (.slice e))(a:Addr)(n c m k:Nat)(w:World):(Op.equalIn (d+1) t (.slice (some a) n c) (.slice none m k)).run P w= .ok false w:=by
 simp [Op.equalIn,run_underlying hu]
theorem jO{t:TypeId}{x y:Value}{b:Bool}{w:World}(h1:∀op z u,eqGuard op t z u x y=pure ()) (h2:binOp .eql t x y=(do pure (.bool (←Op.equal t x y)))) (h3:binOp .neq t x y=(do pure (.bool (!(←Op.equal t x y)))))
  (h:(Op.equalIn (9999+1) t x y).run P w= .ok b w) (xo yo:Operand):
  (do eqGuard .eql t xo yo x y;binOp .eql t x y).run P w= .ok (.bool b) w∧(do eqGuard .neq t xo yo x y;binOp .neq t x y).run P w= .ok (.bool !b) w:=by
 have h':(Op.equal t x y).run P w= .ok b w:=h;rw[h1,h1,h2,h3];simp only[Sem.run_bind,Sem.run_pure,Result.andThen_ok,h',and_self]
theorem qs{t:TypeId}{x y x' y':Value}{b:Bool}(h:eqA P t x y=some b)(hx:VR φ x x')(hy:VR φ y y')(xo yo:Operand)(w:World):
  (do eqGuard .eql t xo yo x' y';binOp .eql t x' y').run P w= .ok (.bool b) w∧(do eqGuard .neq t xo yo x' y';binOp .neq t x' y').run P w= .ok (.bool !b) w:=by
 unfold eqA at h;split at h
 ·split at h
  rotate_left
  ·cases h
  rename_i hb;cases h;cases hx;cases hy;have hu:P.underlying t=some .bool:=by unfold rY at hb;split at hb<;>first|assumption|cases hb
  simp only[eqGuard_at_bool,Sem.run_bind,Sem.run_pure,Result.andThen_ok,run_eql_bool w t _ _ hu,run_neq_bool w t _ _ hu,and_self]
 ·split at h
  rotate_left
  ·cases h
  rename_i k hk;subst hk;cases h;cases hx;cases hy;simp [eqGuard_at_int,binOp,Op.intCmp,bne]
 ·cases h;cases hx;cases hy;simp [eqGuard_at_string,binOp,Op.stringOp,beq_toListBytes]
 ·cases hx;split at h
  rotate_left
  ·cases h
  rename_i e hu;cases h;cases hy<;>exact jO (fun _ _ _=>eqGuard_at_pointer ..) rfl rfl (Df hu _ w) xo yo
 ·cases hx;cases hy;split at h
  rotate_left
  ·cases h
  rename_i e hu;cases h;exact jO (fun _ _ _=>eqGuard_at_pointer ..) rfl rfl (Dd hu _ w) xo yo
 ·cases hx;split at h
  rotate_left
  ·cases h
  rename_i hu;obtain⟨e,he⟩:=Option.isSome_iff_exists.1 hu;cases h;cases hy<;>exact jO (fun _ _ _=>eqGuard_at_slice ..) rfl rfl (Dg (V7 he) _ _ _ _ _ w) xo yo
 ·split at h
  rotate_left
  ·cases h
  rename_i hu;obtain⟨e,he⟩:=Option.isSome_iff_exists.1 hu;cases h;cases hy;cases hx<;>exact jO (fun _ _ _=>eqGuard_at_slice ..) rfl rfl (De (V7 he) _ _ _ _ _ w) xo yo
 ·split at h
  rotate_left
  ·cases h
  rename_i ks hks;cases hx with
  |agg ha hxs=>
   cases hy with
   |agg hb hys=>
    rename_i xs xs' ys ys';obtain⟨e1,e2⟩:=fC h ⟨ha,hxs⟩ ⟨hb,hys⟩;obtain rfl:=Array.toList_inj.1 e1;obtain rfl:=Array.toList_inj.1 e2;unfold eN at hks;split at hks
    rotate_left
    ·cases hks
    rename_i hag;obtain⟨hg,hf⟩:=Q1 hks;simp only[beq_iff_eq]at hag;have hr:=fun w=>qF hf hag 10000 oM _ _ b w h;simp only[Sem.run_bind,run_eqGuard_agg w _ t xo yo _ _ hg,Result.andThen_ok,run_eql_struct,run_neq_struct,hr,and_self]
 ·cases h
theorem wz{op:BinOp}{t:TypeId}{x y x' y' v:Value}(h:E9 P op t x y=some v)(hx:VR φ x x')(hy:VR φ y y')(xo yo:Operand):
  ∃v',VR φ v v'∧∀w,(do eqGuard op t xo yo x' y';binOp op t x' y').run P w= .ok v' w:=by
 unfold E9 at h;split at h
 ·simp only[Option.map_eq_some_iff]at h;obtain⟨b,hb,rfl⟩:=h;exact⟨_,.bool b,fun w=>(qs hb hx hy xo yo w).1⟩
 ·simp only[Option.map_eq_some_iff]at h;obtain⟨b,hb,rfl⟩:=h;exact⟨_,.bool !b,fun w=>(qs hb hx hy xo yo w).2⟩
 ·split at h
  ·cases hx;cases hy;split at h
   ·rename_i hb;cases h;exact⟨_,.int _ _,fun w=>by simp [eqGuard_at_int,binOp,Op.shift];intro;omega⟩
   ·cases h
  ·cases h
 ·split at h
  ·cases hx;cases hy;split at h
   ·rename_i hb;cases h;exact⟨_,.int _ _,fun w=>by simp [eqGuard_at_int,binOp,Op.shift];intro;omega⟩
   ·cases h
  ·cases h
 ·rename_i n1 n2 n3 n4;split at h
  ·rename_i k a k' b;cases hx;cases hy;split at h
   rotate_left
   ·cases h
   rename_i hk;subst hk;split at h
   case h_1=>cases h;exact⟨_,.int _ _,fun w=>by simp [eqGuard_at_int,binOp,Op.intArith]⟩
   case h_2=>cases h;exact⟨_,.int _ _,fun w=>by simp [eqGuard_at_int,binOp,Op.intArith]⟩
   case h_3=>cases h;exact⟨_,.int _ _,fun w=>by simp [eqGuard_at_int,binOp,Op.intArith]⟩
   case h_4=>
    split at h
    ·cases h
    ·rename_i hb;cases h;exact⟨_,.int _ _,fun w=>by simp [eqGuard_at_int,binOp,Op.intDiv,hb]⟩
   case h_5=>
    split at h
    ·cases h
    ·rename_i hb;cases h;exact⟨_,.int _ _,fun w=>by simp [eqGuard_at_int,binOp,Op.intDiv,hb]⟩
   case h_6=>cases h;exact⟨_,.int _ _,fun w=>by simp [eqGuard_at_int,binOp,Op.intBits,Go.bits]⟩
   case h_7=>cases h;exact⟨_,.int _ _,fun w=>by simp [eqGuard_at_int,binOp,Op.intBits,Go.bits]⟩
   case h_8=>cases h;exact⟨_,.int _ _,fun w=>by simp [eqGuard_at_int,binOp,Op.intBits,Go.bits]⟩
   case h_9=>cases h;exact⟨_,.int _ _,fun w=>by simp [eqGuard_at_int,binOp,Op.intBits,Go.bits]⟩
   case h_10=>cases h;exact⟨_,.bool _,fun w=>by simp [eqGuard_at_int,binOp,Op.intCmp]⟩
   case h_11=>cases h;exact⟨_,.bool _,fun w=>by simp [eqGuard_at_int,binOp,Op.intCmp]⟩
   case h_12=>cases h;exact⟨_,.bool _,fun w=>by simp [eqGuard_at_int,binOp,Op.intCmp]⟩
   case h_13=>cases h;exact⟨_,.bool _,fun w=>by simp [eqGuard_at_int,binOp,Op.intCmp]⟩
   case h_14=>cases h
  ·rename_i a b;cases hx;cases hy;split at h
   case h_1=>
    split at h
    ·rename_i hs;cases h;refine⟨_,.string _,fun w=>?_⟩;have hs':¬((a.size+b.size:Nat):Int)>IntKind.i64.max:=by simp;omega
     simp only[eqGuard_at_string,binOp,Op.stringOp,Sem.run_bind,Sem.run_pure,Result.andThen_ok,if_neg hs']
    ·cases h
   case h_2=>cases h;exact⟨_,.bool _,fun w=>by simp [eqGuard_at_string,binOp,Op.stringOp]⟩
   case h_3=>cases h;exact⟨_,.bool _,fun w=>by simp [eqGuard_at_string,binOp,Op.stringOp]⟩
   case h_4=>cases h;exact⟨_,.bool _,fun w=>by simp [eqGuard_at_string,binOp,Op.stringOp]⟩
   case h_5=>cases h;exact⟨_,.bool _,fun w=>by simp [eqGuard_at_string,binOp,Op.stringOp]⟩
   case h_6=>cases h
  ·cases h
theorem Cs{op:UnOp}{x x' v:Value}(h:unA op x=some v)(hx:VR φ x x'):∃v',VR φ v v'∧∀w,(Op.unary op x').run P w= .ok v' w:=by
 unfold unA at h;split at h
 ·cases h;cases hx;exact⟨_,.int _ _,fun w=>by simp [Op.unary,Op.intArith]⟩
 ·cases h;cases hx;exact⟨_,.bool _,fun w=>by simp [Op.unary]⟩
 ·cases h;cases hx;exact⟨_,.int _ _,fun w=>by simp [Op.unary,Op.intBits,Go.bits]⟩
 ·cases h
theorem Addr.add_none(b o n:Nat):(⟨b,o,none⟩:Addr).add n=⟨b,o+n,none⟩:=by unfold Addr.add;split<;>simp_all
theorem jG{t:TypeId}{x ix x' ix' v:Value}(h:R9 P t x ix=some v)(hx:VR φ x x')(hi:VR φ ix ix'):∃v',VR φ v v'∧∀w,(Instr.indexAt t x' ix').run P w= .ok v' w:=by
 unfold R9 at h;split at h
 ·rename_i e b o n c k i hu;cases hi;split at h
  rotate_left
  ·cases h
  rename_i size hs;split at h
  rotate_left
  ·cases h
  rename_i hb;cases h;have fin:∀(l:Loc) c',φ[b]?=some l→∃v',VR φ (.pointer (some ⟨b,o+i.toNat*size,none⟩)) v'∧∀w,(Instr.indexAt t (.slice (some ⟨l.blk,l.off+o,none⟩) n c') (.int k i)).run P w= .ok v' w:=by
   intro l c' hl;refine⟨_,.ptr hl,fun w=>?_⟩;simp only[Instr.indexAt,asIntOf,Sem.run_bind,Sem.run_pure,Result.andThen_ok,run_underlying hu,hb,and_self,if_true,B9 hs,Addr.add_none,Nat.add_assoc]
  cases hx with
  |slice0=>exfalso;omega
  |exact hl=>exact fin _ _ hl
  |slice hl=>exact fin _ _ hl
 ·rename_i n e b o k i hu;cases hi;split at h
  rotate_left
  ·cases h
  rename_i size hs;split at h
  rotate_left
  ·cases h
  rename_i hb;cases h;cases hx with
  |ptr hl=>
   refine⟨_,.ptr hl,fun w=>?_⟩;simp only[Instr.indexAt,Instr.sureAddr,asIntOf,Sem.run_bind,Sem.run_pure,Result.andThen_ok,run_underlying hu,hb,and_self,if_true,B9 hs,Addr.add_none,Nat.add_assoc]
 ·cases h
theorem lG{t:TypeId}{cs cs':LV}{off:Nat}{v:Value}(h:fq P t cs off=some v)(hc:VRs φ cs cs'):∃v',VR φ v v'∧∀w,(part t cs'.toArray off).run P w= .ok v' w:=by
 unfold fq at h;split at h
 ·rename_i s ha hs;cases h;refine⟨_,VR.toAgg ((hc.drop off).take s),fun w=>?_⟩;simp [part,N2 ha,B9 hs]
 ·rename_i ha;obtain⟨y,hy,hv⟩:=hc.get h;refine⟨y,hv,fun w=>?_⟩;simp only[part,Sem.run_bind,N2 ‹_›,Result.andThen_ok,Bool.false_eq_true,if_false,List.getElem?_toArray,hy,Sem.run_pure]
 ·cases h
theorem qz{t:TypeId}{x x' v:Value}{i:Nat}(h:iA P t x i=some v)(hx:VR φ x x'):∃v',VR φ v v'∧∀w,(Instr.field t x' i).run P w= .ok v' w:=by
 unfold iA E0 at h;split at h
 rotate_left
 ·cases h
 rename_i off ft cs hf;split at hf
 rotate_left
 ·cases hf
 rename_i fs hu;simp only[Option.map_eq_some_iff,Prod.mk.injEq]at hf;obtain⟨f,hf,rfl,rfl⟩:=hf;cases hx with
 |agg ha hc=>
  obtain⟨v',h1,h2⟩:=lG (cs':=_) h ⟨ha,hc⟩;exact⟨v',h1,fun w=>by simpa [Instr.field,run_underlying hu,hf,asAgg] using h2 w⟩
theorem jD{t:TypeId}{x x' v:Value}{i:Nat}(h:Z7 P t x i=some v)(hx:VR φ x x'):∃v',VR φ v v'∧∀w,(Instr.fieldAt t x' i).run P w= .ok v' w:=by
 unfold Z7 E0 at h;split at h
 rotate_left
 ·cases h
 rename_i off ft b o hf;split at hf
 rotate_left
 ·cases hf
 rename_i fs hu;simp only[Option.map_eq_some_iff,Prod.mk.injEq]at hf;obtain⟨f,hf,rfl,rfl⟩:=hf;split at h
 rotate_left
 ·cases h
 rename_i s hs;split at h
 ·cases h
 rename_i hs0;cases h;cases hx with
 |ptr hl=>
  refine⟨_,.ptr hl,fun w=>?_⟩;simp only[Instr.fieldAt,Sem.run_bind,run_underlying hu,Result.andThen_ok,hf,Instr.sureAddr,Sem.run_pure,fieldPlace,B9 hs,if_neg hs0,Addr.add_none,Nat.add_assoc]
theorem qM{t:TypeId}{x ix x' ix' v:Value}(h:eo P t x ix=some v)(hx:VR φ x x')(hi:VR φ ix ix'):∃v',VR φ v v'∧∀w,(Instr.index t x' ix').run P w= .ok v' w:=by
 unfold eo at h;split at h
 ·rename_i n e cs k i hu;cases hi;split at h
  rotate_left
  ·cases h
  rename_i size hs;split at h
  rotate_left
  ·cases h
  rename_i hb;cases hx with
  |agg ha hc=>
   obtain⟨v',h1,h2⟩:=lG (cs':=_) h ⟨ha,hc⟩;refine⟨v',h1,fun w=>?_⟩;have h2':=h2 w;simp only[Array.toArray_toList]at h2';simp only[Instr.index,asIntOf,Sem.run_bind,Sem.run_pure,Result.andThen_ok,run_underlying hu,hb,and_self,if_true,B9 hs,h2']
 ·rename_i s k i hu;cases hi;cases hx;split at h
  rotate_left
  ·cases h
  rename_i hb;cases h;refine⟨_,.int _ _,fun w=>?_⟩;have hlt:i.toNat<s.size:=oM;have hg:(if 0≤i then s[i.toNat]? else none)=some (s.data.toList.getD i.toNat 0):=by
   rw[if_pos hb.1,ByteArray.getElem?_lt' s i.toNat hlt];have:i.toNat<s.data.size:=hlt;simp only[List.getD_eq_getElem?_getD,Array.getElem?_toList,Array.getElem?_eq_getElem this,Option.getD_some];rfl
  simp only[Instr.index,asIntOf,Sem.run_bind,Sem.run_pure,Result.andThen_ok,run_underlying hu,hg]
 ·cases h
end
section
variable{P:Program}{base:Bs}{w0:World}{φ:List Loc}{S:List Blk}{w:World}
theorem dQ{x x':Option Value}{d n:Nat}(h:bnd x d=some n)(hx:∀v v',x=some v→x'=some v'→VR φ v v') (hn:x.isSome=x'.isSome):
  x'=x∧((x=none∧n=d)∨∃k i,x=some (.int k i)∧0≤i∧n=i.toNat):=by
 unfold bnd at h;split at h
 ·cases h;cases x' with
  |none=>exact⟨rfl,.inl ⟨rfl,rfl⟩⟩
  |some _=>simp at hn
 ·rename_i k i _;split at h
  ·rename_i h0;cases h;cases x' with
   |none=>simp at hn
   |some v'=>
    have:=hx _ _ rfl rfl;cases this;exact⟨rfl,.inr ⟨_,_,rfl,h0,rfl⟩⟩
  ·cases h
 ·cases h
theorem lS{isSlice:Bool}{len cap:Nat}{lo hi:Option Value}{l h:Nat}(hl:(lo=none∧l=0)∨∃k i,lo=some (.int k i)∧0≤i∧l=i.toNat)
  (hh:(hi=none∧h=len)∨∃k i,hi=some (.int k i)∧0≤i∧h=i.toNat) (h1:l≤h) (h2:h≤len) (h3:len≤cap) (w:World):
  (Instr.sliceBounds isSlice len cap lo hi none).run P w= .ok (l,h,cap) w:=by
 have sb:∀k(i:Int)(y:Nat) code,0≤i→i.toNat≤y→(Instr.sliceBound (.int k i) y code).run P w= .ok i.toNat w:=fun k i y code h0 hy=>run_sliceBound w k i y code h0 oM;rcases hl with⟨rfl,rfl⟩|⟨k,i,rfl,i0,rfl⟩<;>rcases hh with⟨rfl,rfl⟩|⟨k',j,rfl,j0,rfl⟩
 ·simp [Instr.sliceBounds]
 ·simp [Instr.sliceBounds,sb k' j cap _ j0 oM]
 ·simp [Instr.sliceBounds,sb k i h _ i0 oM]
 ·simp [Instr.sliceBounds,sb k' j cap _ j0 oM,sb k i j.toNat _ i0 oM]
theorem rK{isSlice:Bool}{len cap:Nat}{lo hi mx:Option Value}{l h:Nat}(hl:(lo=none∧l=0)∨∃k i,lo=some (.int k i)∧0≤i∧l=i.toNat)
  (hh:∃k i,hi=some (.int k i)∧0≤i∧h=i.toNat) (hm:∃k i,mx=some (.int k i)∧0≤i∧h=i.toNat) (h1:l≤h) (h2:h≤len) (h3:len≤cap) (w:World):
  (Instr.sliceBounds isSlice len cap lo hi mx).run P w= .ok (l,h,h) w:=by
 have sb:∀k(i:Int)(y:Nat) code,0≤i→i.toNat≤y→(Instr.sliceBound (.int k i) y code).run P w= .ok i.toNat w:=fun k i y code h0 hy=>run_sliceBound w k i y code h0 oM;obtain⟨k',j,rfl,j0,rfl⟩:=hh;obtain⟨k2,m,rfl,m0,e⟩:=hm;rcases hl with⟨rfl,rfl⟩|⟨k,i,rfl,i0,rfl⟩
 ·simp [Instr.sliceBounds,sb k2 m cap _ m0 oM,sb k' j m.toNat _ j0 oM];omega
 ·simp [Instr.sliceBounds,sb k2 m cap _ m0 oM,sb k' j m.toNat _ j0 oM,sb k i j.toNat _ i0 oM];omega
theorem yI{H:d9}(hW:WR base w0 φ H.bs w){b size:Nat}(h:yH H b=some size){l:Loc}(hl:φ[b]?=some l):l.sz=size:=by
 unfold yH at h;split at h
 ·rename_i c own sz hg;cases h;obtain⟨l',hl',hbr⟩:=hW.loc hg;rw[hl]at hl';cases hl';exact hbr.1
 ·cases h
theorem jy{H:d9}{t:TypeId}{x x' v:Value}{lo hi mx lo' hi' mx':Option Value}(hW:WR base w0 φ H.bs w)(h:Y7 P H t x lo hi mx=some v)(hx:VR φ x x')
  (hlo:(∀v v',lo=some v→lo'=some v'→VR φ v v')∧lo.isSome=lo'.isSome) (hhi:(∀v v',hi=some v→hi'=some v'→VR φ v v')∧hi.isSome=hi'.isSome)
  (hmx:(∀v v',mx=some v→mx'=some v'→VR φ v v')∧mx.isSome=mx'.isSome):
  ∃v',VR φ v v'∧∀w',(Instr.sliceAt t x' lo' hi' mx').run P w'= .ok v' w':=by
 unfold Y7 at h;split at h
 ·rename_i s hu;cases hx;split at h
  rotate_left
  ·cases h
  rename_i l hh hl1 hh1;split at h
  rotate_left
  ·cases h
  rename_i hb;cases h;obtain⟨rfl,L⟩:=dQ hl1 hlo.1 hlo.2;obtain⟨rfl,R⟩:=dQ hh1 hhi.1 hhi.2;obtain rfl:mx'=none:=by cases mx'<;>simp at hmx ⊢
  refine⟨_,.string _,fun w'=>?_⟩;simp [Instr.sliceAt,Instr.slice,run_underlying hu,lS L R hb.1 hb.2 lR]
 ·rename_i e a n c hu;split at h
  rotate_left
  ·cases h
  rename_i size l hh hs hl1 hh1;split at h
  ·cases h
  rename_i hsz;split at h
  rotate_left
  ·cases h
  rename_i hb;obtain⟨rfl,L⟩:=dQ hl1 hlo.1 hlo.2;obtain⟨rfl,R⟩:=dQ hh1 hhi.1 hhi.2;split at h
  ·
   obtain rfl:mx'=none:=by cases mx'<;>simp at hmx ⊢
   have run:∀a'(cap:Nat),n≤cap→∀w',(Instr.sliceAt t (.slice a' n cap) lo' hi' none).run P w'= .ok (.slice (if cap=l then a' else a'.map (·.add (l*size))) (hh-l) (cap-l)) w':=by
    intro a' cap hc w';simp [Instr.sliceAt,Instr.slice,run_underlying hu,lS L R hb.1 hb.2 hc,B9 hs]
   split at h
   ·cases h;cases hx;exact⟨_,.nilslice,fun w'=>by rw[run _ _ lR];simp;omega⟩
   ·rename_i b o;by_cases hn0:n=0
    ·subst hn0;rw[if_pos rfl]at h;cases h;have e0:l=0:=oM;have e1:hh=0:=oM;subst e0 e1;cases hx with
     |slice0=>exact⟨.slice (some _) 0 0,.slice0,fun w'=>by rw[run _ _ lR];simp;rfl⟩
     |exact hl=>exact⟨.slice (some _) 0 0,.slice0,fun w'=>by rw[run _ _ lR];simp;rfl⟩
     |slice hl hn hc=>
      rename_i c' lc;by_cases hc0:c'=0
      ·subst hc0;exact⟨.slice (some _) 0 0,.slice0,fun w'=>by rw[run _ _ lR];simp;rfl⟩
      ·refine⟨_,?_,fun w'=>run _ _ hn w'⟩;rw[if_neg hc0];simp only[Option.map_some,Addr.add_none,Nat.add_assoc,Nat.zero_mul,Nat.add_zero,Nat.sub_zero];exact .slice hl (Nat.zero_le _) hc
    rw[if_neg hn0]at h;split at h
    ·cases h
    rename_i hsa;have hsa:yH H b=some size:=Decidable.not_not.1 hsa;split at h
    ·rename_i hcn;subst hcn;split at h
     rotate_left
     ·cases h
     rename_i hhn;subst hhn;cases h;cases hx with
     |slice0=>
      have h0:l=0:=oM;subst h0;exact⟨.slice (some _) 0 0,.slice0,fun w'=>by rw[run _ _ lR];simp;rfl⟩
     |exact hl=>
      rename_i lc;by_cases hcl:hh=l
      ·subst hcl;refine⟨_,?_,fun w'=>run _ _ lR w'⟩;rw[if_pos rfl];have:hh-hh=0:=oM;rw[this];exact .slice0
      ·refine⟨_,?_,fun w'=>run _ _ lR w'⟩;rw[if_neg hcl];simp only[Option.map_some,Addr.add_none,Nat.add_assoc];exact .exact hl
    ·rename_i hcn;cases h;cases hx with
     |slice0=>
      have h0:l=0:=oM;have h1:hh=0:=oM;subst h0 h1;exact⟨.slice (some _) 0 0,.slice0,fun w'=>by rw[run _ _ lR];simp;rfl⟩
     |exact hl=>exact absurd rfl hcn
     |slice hl hn hc=>
      rename_i c' lc;refine⟨_,?_,fun w'=>run _ _ hn w'⟩;by_cases hcl:c'=l
      ·subst hcl;rw[if_pos rfl];have e1:hh-c'=0:=oM;have e2:c'-c'=0:=oM;rw[e1,e2];exact .slice0
      ·rw[if_neg hcl];simp only[Option.map_some,Addr.add_none,Nat.add_assoc];refine .slice hl oM ?_;have hz:=yI hW hsa hl;rw[hz]at hc ⊢;have:o+l*size+(c'-l)*size=o+c'*size:=by
        have:l≤c':=oM;rw[Nat.add_assoc,←Nat.add_mul,Nat.add_sub_cancel' this]
       omega
   ·cases h
  ·rename_i m;split at h
   rotate_left
   ·cases h
   rename_i hm1;obtain⟨rfl,M⟩:=dQ hm1.1 hmx.1 hmx.2;have M':∃k i,some m=some (.int k i)∧0≤i∧hh=i.toNat:=by
    rcases M with⟨h1,_⟩|h1
    ·cases h1
    ·exact h1
   have R':hi'.isSome→∃k i,hi'=some (.int k i)∧0≤i∧hh=i.toNat:=by
    intro hs';rcases R with⟨h1,_⟩|h1
    ·subst h1;cases hs'
    ·exact h1
   have run:∀a'(cap:Nat),n≤cap→∀w',(Instr.sliceAt t (.slice a' n cap) lo' hi' (some m)).run P w'= .ok (.slice (if hh=l then a' else a'.map (·.add (l*size))) (hh-l) (hh-l)) w':=by
    intro a' cap hc w';simp [Instr.sliceAt,Instr.slice,run_underlying hu,rK L (R' hm1.2) M' hb.1 hb.2 hc,B9 hs]
   split at h
   ·cases h;cases hx;exact⟨_,.nilslice,fun w'=>by rw[run _ _ lR];simp;omega⟩
   ·rename_i b o;cases h;have fin:∀a'(cap:Nat),n≤cap→(hh=l∨∃lc:Loc,φ[b]?=some lc∧a'=some ⟨lc.blk,lc.off+o,none⟩)→a'.isSome→
      ∃v',VR φ (.slice (some ⟨b,o+l*size,none⟩) (hh-l) (hh-l)) v'∧∀w',(Instr.sliceAt t (.slice a' n cap) lo' hi' (some m)).run P w'= .ok v' w':=by
     intro a' cap hc hor hsm;refine⟨_,?_,fun w'=>run _ _ hc w'⟩;by_cases hcl:hh=l
     ·subst hcl;rw[if_pos rfl];have:hh-hh=0:=oM;rw[this];cases a' with
      |none=>cases hsm
      |some a'=>exact .slice0
     ·rw[if_neg hcl];rcases hor with h1|⟨lc,hl,rfl⟩
      ·exact absurd h1 hcl
      ·simp only[Option.map_some,Addr.add_none,Nat.add_assoc];exact .exact hl
    cases hx with
    |slice0=>exact fin _ _ lR (.inl oM) rfl
    |exact hl=>exact fin _ _ lR (.inr ⟨_,hl,rfl⟩) rfl
    |slice hl hn hc=>exact fin _ _ hn (.inr ⟨_,hl,rfl⟩) rfl
   ·cases h
 ·cases h
theorem D9(c:LV)(o:Nat)(xs:LV):(splice c o xs).length=c.length:=by
 induction xs generalizing c o with
 |nil=>rfl
 |cons x xs ih=>simp [splice,ih]
theorem VRs.splice{a b xs ys:LV}(h:VRs φ a b)(o:Nat)(k:VRs φ xs ys):VRs φ (Ve.splice a o xs) (Ve.splice b o ys):=by
 induction xs generalizing a b o ys with
 |nil=>rw[k.of_nil];exact h
 |cons x xs ih=>
  obtain⟨y,ys,rfl,h1,h2⟩:=k.of_cons;exact ih (h.set o h1) (o+1) h2
theorem oV(l:LV):∀(k off:Nat)(cs:Array Value),(l.zipIdx k).foldl (fun cs(c,j)=>cs.setIfInBounds (off+j) c) cs=(splice cs.toList (off+k) l).toArray:=by
 induction l with
 |nil=>intro k off cs;simp [splice]
 |cons x xs ih=>
  intro k off cs;simp only[List.zipIdx_cons,List.foldl_cons,ih,splice]
  congr 1
  rw[Array.toList_setIfInBounds];rw[Nat.add_assoc]
def fY(φ:List Loc)(a b:List (Nat×Value)):Prop:=a.length=b.length∧∀(i:Nat) x y,a[i]?=some x→b[i]?=some y→x.1=y.1∧VR φ x.2 y.2
theorem fY.of_cons{i:Nat}{x:Value}{xs zs:List (Nat×Value)}(h:fY φ ((i,x)::xs) zs):∃y ys,zs=(i,y)::ys∧VR φ x y∧fY φ xs ys:=by
 cases zs with
 |nil=>have:=h.1;simp at this
 |cons y ys=>
  obtain⟨j,y⟩:=y;have h0:=h.2 0 (i,x) (j,y) (by simp) (by simp);simp only at h0;obtain⟨rfl,hv⟩:=h0;exact⟨y,ys,rfl,hv,by have:=h.1;simpa using this,fun k a b p q=>h.2 (k+1) a b (by simpa using p) (by simpa using q)⟩
theorem fY.of_nil{zs:List (Nat×Value)}(h:fY φ [] zs):zs=[]:=by
 have:=h.1;cases zs with
 |nil=>rfl
 |cons _ _=>simp at this
theorem cZ{place:Nat→Option (Nat×Nat)}{parts parts':List (Nat×Value)}:∀{cs cs' l:LV},Q6 place cs parts=some l→VRs φ cs cs'→fY φ parts parts'→
  ∃l',Instr.fill place cs'.toArray parts'=some l'.toArray∧VRs φ l l':=by
 induction parts generalizing parts' with
 |nil=>
  intro cs cs' l h hc hp;rw[hp.of_nil];simp only[Q6,Option.some.injEq]at h;subst h;exact⟨cs',rfl,hc⟩
 |cons p parts ih=>
  intro cs cs' l h hc hp;obtain⟨i,x⟩:=p;obtain⟨y,ys,rfl,hv,hp'⟩:=hp.of_cons;simp only[Q6]at h;cases hpl:place i with
  |none=>simp [hpl]at h
  |some q=>
   obtain⟨off,size⟩:=q;simp only[hpl]at h;split at h
   ·cases h
   rename_i hcond;have hone:x.cells.toList.all Value.oneCell'=true:=by
    cases hq:x.cells.toList.all Value.oneCell' with
    |true=>rfl
    |false=>exact absurd (.inr (.inr hq)) hcond
   have hsz:y.cells.toList.length=x.cells.toList.length:=(hv.cells hone).1.symm;have hlen:=hc.1;obtain⟨l',e1,e2⟩:=ih h (hc.splice off (hv.cells hone)) hp';refine⟨l',?_,e2⟩;simp only[Instr.fill,hpl];have hy:y.cells.size=size:=by
    have:y.cells.toList.length=y.cells.size:=by simp
    omega
   have hcond':((decide (y.cells.size≠size))||decide (off+y.cells.size>cs'.toArray.size))=false:=by
    simp only[hy,ne_eq,not_true_eq_false,decide_false,Bool.false_or,decide_eq_false_iff_not,List.size_toArray];omega
   rw[hcond'];simp only[Bool.false_eq_true,if_false];rw[←e1]
   congr 1
   rw[←Array.foldl_toList,Array.toList_zipIdx,oV];simp
theorem qi{t:TypeId}{parts parts':List (Nat×Value)}{v:Value}(h:kl P t parts=some v)(hp:fY φ parts parts'):
  ∃v',VR φ v v'∧∀w,(Instr.build t parts'.toArray).run P w= .ok v' w:=by
 unfold kl at h;have zspec:∀z,B8 P t=some z→∃it zv,P.info? t=some it∧it.zero=some zv∧zv.cells.toList=z∧z.all Ve.na0=true:=by
  intro z hz;unfold B8 at hz;cases hi:P.info? t with
  |none=>simp [hi]at hz
  |some it=>
   cases hzz:it.zero with
   |none=>simp [hi,hzz]at hz
   |some zv=>
    simp only[hi,hzz,Option.bind_some]at hz;split at hz
    ·rename_i hc;cases hz;simp only[Bool.and_eq_true]at hc;exact⟨it,zv,rfl,hzz,rfl,hc.1⟩
    ·cases hz
 split at h
 ·rename_i z ps hz hpl;obtain⟨it,zv,hi,hzz,rfl,hna⟩:=zspec z hz;simp only[Option.map_eq_some_iff]at h;obtain⟨l,hl,rfl⟩:=h;obtain⟨l',e1,e2⟩:=cZ hl (VRs.na0 hna) hp;refine⟨_,VR.toAgg e2,fun w=>run_build w t _ _ ?_⟩;unfold bL at hpl;split at hpl
  ·rename_i fs hu;simp only[Option.map_eq_some_iff]at hpl;obtain⟨ps',hps,he⟩:=hpl;cases he;have hps':fs.toList.mapM (fun f=>(P.info? f.type).map fun i=>(f.offset,i.size))=some ps:=by
    rw[←hps]
    congr 1
    funext f
    simp [z9,Option.map_map,Function.comp_def]
   simp only[Program.built,hi,hu,hzz,hps']
   simpa using e1
  ·rename_i n e hu;simp at hpl
  ·cases hpl
 ·rename_i z s hz hpl;obtain⟨it,zv,hi,hzz,rfl,hna⟩:=zspec z hz;simp only[Option.map_eq_some_iff]at h;obtain⟨l,hl,rfl⟩:=h;obtain⟨l',e1,e2⟩:=cZ hl (VRs.na0 hna) hp;refine⟨_,VR.toAgg e2,fun w=>run_build w t _ _ ?_⟩;unfold bL at hpl;split at hpl
  ·simp at hpl
  ·rename_i n e hu;simp only[Option.map_eq_some_iff]at hpl;obtain⟨s',hs,he⟩:=hpl;cases he;unfold z9 at hs;cases hie:P.info? e with
   |none=>simp [hie]at hs
   |some ie=>
    simp [hie]at hs;subst hs;simp only[Program.built,hi,hu,hzz,hie]
    simpa using e1
  ·cases hpl
 ·cases h
theorem xK{H:d9}{ts:List TypeId}{x x' v:Value}(hW:WR base w0 φ H.bs w)(h:Bi P H ts x=some v)(hx:VR φ x x')(ty:TypeId):
  ∃v',VR φ v v'∧∀w',Cls base w0 φ H.bs w w'→(Builtin.len_ ts.toArray ty #[x']).run P w'= .ok v' w':=by
 unfold Bi at h;have hd:∀d,ts.head?.bind P.underlying=some d→∃t,ts.toArray[0]?=some t∧P.underlying t=some d:=by
  intro d hd;cases ts with
  |nil=>simp at hd
  |cons t ts=>exact⟨t,by simp,by simpa using hd⟩
 split at h
 ·rename_i s hu;obtain⟨t,ht,hu⟩:=hd _ hu;cases h;cases hx;exact⟨_,.int _ _,fun w' _=>by simp [Builtin.len_,ht,run_underlying hu,goInt]⟩
 ·rename_i e a n c hu;obtain⟨t,ht,hu⟩:=hd _ hu;cases h;cases hx<;>exact⟨_,.int _ _,fun w' _=>by simp [Builtin.len_,ht,run_underlying hu,goInt]⟩
 ·rename_i n e x hu;obtain⟨t,ht,hu⟩:=hd _ hu;cases h;exact⟨_,.int _ _,fun w' _=>by simp [Builtin.len_,ht,run_underlying hu,goInt]⟩
 ·rename_i k e hu;obtain⟨t,ht,hu⟩:=hd _ hu;cases h;cases hx;exact⟨_,.int _ _,fun w' _=>by simp [Builtin.len_,ht,run_underlying hu,goInt]⟩
 ·rename_i k e b hu;obtain⟨t,ht,hu⟩:=hd _ hu;split at h
  rotate_left
  ·cases h
  rename_i es hg;cases h;cases hx with
  |map hl=>
   rename_i l;obtain⟨l',hl',hbr⟩:=hW.loc hg;rw[hl]at hl';cases hl';obtain⟨hb,es',cl,h1,h2,h3⟩:=hbr;refine⟨_,.int _ _,fun w' hc=>?_⟩;have hh:w'.heap[l.blk]?=some (.map es' cl):=by rw[hc.same _ _ l hg (by simp) hl];exact h1
   simp [Builtin.len_,ht,run_underlying hu,getObj,Sem.run,hh,goInt,h2]
 ·cases h
theorem gJ{mx:Bool}:∀{xs:LV}{v:Value},fN mx xs=some v→∀ys,VRs φ xs ys→∃y rest,ys=y::rest∧VR φ v v∧∀w,(rest.foldlM (if mx then Builtin.max2 else Builtin.min2) y).run P w= .ok v w:=by
 intro xs;induction hn:xs.length using Nat.strongRecOn generalizing xs with
 |_ n ih=>
  intro v h ys hy;unfold fN at h;split at h
  ·cases h;obtain⟨y,ys,rfl,h1,h2⟩:=hy.of_cons;rw[h2.of_nil];cases h1;exact⟨_,[],rfl,.int _ _,fun w=>by simp⟩
  ·rename_i k a k' b rest;split at h
   rotate_left
   ·cases h
   rename_i hk;subst hk;obtain⟨y,ys,rfl,h1,h2⟩:=hy.of_cons;obtain⟨y2,ys,rfl,h3,h4⟩:=h2.of_cons;cases h1;cases h3;obtain⟨y3,rest3,e,hv,hr⟩:=ih _ (by simp at hn ⊢;omega) rfl h (_::ys) (.cons (.int k _) h4);obtain⟨rfl,rfl⟩:=List.cons.inj e;refine⟨_,_,rfl,hv,fun w=>?_⟩;rw[List.foldlM_cons,Sem.run_bind];have:((if mx then Builtin.max2 else Builtin.min2) (.int k a) (.int k b)).run P w= .ok (.int k (if mx then(if b>a then b else a) else(if b<a then b else a))) w:=by
    cases mx<;>rfl
   rw[this,Result.andThen_ok];exact hr w
  ·cases h
theorem iy(s:ByteArray):(s==s)=true:=by rw[beq_toListBytes];simp
theorem pk{k:D1}{x:Value}(h:kV k x=true):M6 k x x=some true:=by
 unfold kV at h;split at h
 ·simp [M6]
 ·simp [M6]
 ·simp [M6,iy]
 ·cases h
theorem nB{ks:List D1}{xs:LV}(h:T9 ks xs=true):A0 ks xs xs=some true:=by
 induction ks generalizing xs with
 |nil=>
  cases xs with
  |nil=>rfl
  |cons _ _=>cases h
 |cons k ks ih=>
  cases xs with
  |nil=>cases h
  |cons x xs=>
   simp only[T9,Bool.and_eq_true]at h;simp [A0,pk h.1,ih h.2]
theorem xq{d:Nat}{t:TypeId}{ks:List D1}(h:U2 P d t=some ks):∃q,E7 P t=some q:=by
 cases d with
 |zero=>cases h
 |succ d=>
  unfold E7;unfold U2 at h;split at h<;>rename_i hu'<;>first|exact⟨_,by rw[hu']⟩|cases h
theorem gB{d:Nat}{t:TypeId}{ks:List D1}(h:U2 P d t=some ks)(hq:E7 P t=some false):∃k,ks=[k]:=by
 cases d with
 |zero=>cases h
 |succ d=>obtain⟨k,hk,_⟩:=dZ h hq;exact⟨k,hk⟩
theorem dC{empty:Bool}{d:Nat}{t:TypeId}{ks:List D1}(h:U2 P d t=some ks)(hq:E7 P t=some false)(D:Nat)(v:Value)(w:World){k:D1}(hv:M6 k v v=some true):
  (Instr.checkKey empty (D+1) t v).run P w= .ok () w:=by
 cases d with
 |zero=>cases h
 |succ d=>
  unfold E7 at hq;unfold U2 at h;unfold M6 at hv;split at h<;>rename_i hu<;>(try rw[hu]at hq)<;>first|(cases hq;done)|(cases h;done)|skip
  all_goals
   split at hv<;>first|(cases hv;done)|simp [Instr.checkKey,run_underlying hu]
theorem oN{empty:Bool}:∀{d:Nat}{t:TypeId}{ks:List D1},U2 P d t=some ks→E7 P t=some true→∀D,d≤D→∀(xs:Array Value)(w:World),
  A0 ks xs.toList xs.toList=some true→(Instr.checkKey empty D t (.agg xs)).run P w= .ok () w:=by
 intro d;induction d with
 |zero=>intro t ks h;cases h
 |succ d ih=>
  intro t ks h hq D hD xs w hc;obtain⟨D,rfl⟩:∃m,D=m+1:=⟨D-1,oM⟩
  unfold E7 at hq;unfold U2 at h;split at h<;>rename_i hu<;>(try rw[hu]at hq)<;>first|(cases hq;done)|(cases h;done)|skip
  rename_i fs;split at h
  ·cases h
  simp only[Instr.checkKey,Sem.run_bind,run_underlying hu,Result.andThen_ok];rw[←Array.forIn_toList];have key:∀(fl:List Field)(n:Nat)(r:List D1),fG P (U2 P d) fl n=some r→A0 r (xs.toList.drop n) (xs.toList.drop n)=some true→
    (Sem.run P (forIn fl PUnit.unit fun f __s=>
      if f.name≠ "_" then do
       let __do_lift←part f.type xs f.offset
       Instr.checkKey empty D f.type __do_lift
       pure (ForInStep.yield PUnit.unit)
      else pure (ForInStep.yield PUnit.unit)) w)= .ok PUnit.unit w:=by
   intro fl;induction fl with
   |nil=>intro n r h1 h2;rfl
   |cons f fl ihf=>
    intro n r h1 h2;simp only[fG]at h1;split at h1
    rotate_left
    ·cases h1
    rename_i hn;split at h1
    rotate_left
    ·cases h1
    rename_i m hm;split at h1
    rotate_left
    ·cases h1
    rename_i hs;simp only[Option.map_eq_some_iff]at h1;obtain⟨r',hr',rfl⟩:=h1;obtain⟨b1,b2,e1,e2,e3⟩:=dV h2;obtain⟨rfl,rfl⟩:b1=true∧b2=true:=by cases b1<;>cases b2<;>simp at e3 ⊢
    rw[List.drop_drop]at e2;have ihf':=ihf _ _ hr' e2;have hln:=bC e1;have hstep:∃a,(part f.type xs f.offset).run P w= .ok a w∧(Instr.checkKey empty D f.type a).run P w= .ok () w:=by
     obtain⟨q,hq'⟩:=xq hm;cases q with
     |true=>
      refine⟨.agg (xs.extract f.offset (f.offset+m.length)),by simp [part,N2 hq',B9 hs],ih hm hq' D oM _ w ?_⟩;rw[hn.2]
      simpa [List.take_drop] using e1
     |false=>
      obtain⟨k,rfl⟩:=gB hm hq';obtain⟨D',rfl⟩:∃z,D=z+1:=⟨D-1,by cases d with
       |zero=>cases hm
       |succ d=>omega⟩
      simp only[List.length_cons,List.length_nil,Nat.zero_add]at e1 hln;obtain⟨x,hx⟩:∃x,(xs.toList.drop n).take 1=[x]:=List.length_eq_one_iff.1 hln.1;rw[hx]at e1;have hx':xs[f.offset]?=some x:=by
       have:((xs.toList.drop n).take 1)[0]?=some x:=by rw[hx];rfl
       rw[hn.2];simpa [List.getElem?_take,List.getElem?_drop] using this
      refine⟨x,by simp [part,N2 hq',hx'],dC hm hq' D' x w (k:=k) ?_⟩;unfold A0 at e1;cases hce:M6 k x x with
      |none=>simp [hce]at e1
      |some z=>simp [hce,A0]at e1;rw[e1]
    obtain⟨a,s1,s2⟩:=hstep;rw[List.forIn_cons];simp only[hn.1,ne_eq,not_false_eq_true,if_true,Sem.run_bind,s1,s2,Result.andThen_ok,Sem.run_pure]
    simpa using ihf'
  rw[key fs.toList 0 ks h (by simpa using hc)];rfl
theorem Y3{kt:TypeId}{k:Value}(h:Z8 P kt k=true)(empty:Bool)(w:World):(Instr.checkKey empty 10000 kt k).run P w= .ok () w:=by
 unfold Z8 at h;split at h
 ·rename_i ks cs hc ha;exact oN (Q1 hc).2 ha 10000 oM cs w (nB h)
 ·rename_i ks hc ha;obtain⟨kk,rfl⟩:=gB (Q1 hc).2 ha;simp only[T9,Bool.and_true]at h;exact dC (Q1 hc).2 ha 9999 _ w (pk h)
 ·cases h
theorem jo{kt:TypeId}{k k':Value}(h:Z8 P kt k=true)(hv:VR φ k k'):k'=k:=by
 unfold Z8 at h;split at h
 ·rename_i ks cs hc ha;cases hv with
  |agg e1 e2=>
   have:=(fC (nB h) ⟨e1,e2⟩ ⟨e1,e2⟩).1;rw[Array.toList_inj.1 this]
 ·rename_i ks hc ha;obtain⟨kk,rfl⟩:=gB (Q1 hc).2 ha;simp only[T9,Bool.and_true]at h;exact(iz (pk h) hv hv).1
 ·cases h
theorem ja{k:D1}{x y:Value}(h:M6 k x y=some true):x=y:=by
 unfold M6 at h;split at h
 ·simp only[Option.some.injEq,beq_iff_eq]at h;rw[h]
 ·split at h
  ·rename_i hk;subst hk;simp only[Option.some.injEq,beq_iff_eq]at h;rw[h]
  ·cases h
 ·simp only[Option.some.injEq]at h;rw[beq_toListBytes,beq_iff_eq,ByteArray.toList_eq,ByteArray.toList_eq]at h;have h2:=Array.toList_inj.1 h;rename_i a b;obtain⟨a⟩:=a;obtain⟨b⟩:=b;simp only at h2;rw[h2]
 ·cases h
theorem oK{ks:List D1}{xs ys:LV}(h:A0 ks xs ys=some true):xs=ys:=by
 induction ks generalizing xs ys with
 |nil=>cases xs<;>cases ys<;>first|rfl|cases h
 |cons k ks ih=>
  cases xs with
  |nil=>cases h
  |cons x xs=>
   cases ys with
   |nil=>cases h
   |cons y ys=>
    simp only[A0]at h;split at h
    ·rename_i a b h1 h2;obtain⟨rfl,rfl⟩:a=true∧b=true:=by cases a<;>cases b<;>simp at h ⊢
     rw[ja h1,ih h2]
    ·cases h
theorem mV{k:D1}{x y:Value}{b:Bool}(h:M6 k x y=some b):Ve.na0 x=true:=by
 unfold M6 at h;split at h<;>first|rfl|cases h
theorem sO{ks:List D1}{xs ys:LV}{b:Bool}(h:A0 ks xs ys=some b):∀(i:Nat)(x:Value),xs[i]?=some x→∃_z:Unit,xs=xs∧Ve.na0 x=true:=by
 induction ks generalizing xs ys b with
 |nil=>cases xs<;>cases ys<;>first|(intro i x hx;simp at hx;done)|cases h
 |cons k ks ih=>
  cases xs with
  |nil=>cases h
  |cons x xs=>
   cases ys with
   |nil=>cases h
   |cons y ys=>
    simp only[A0]at h;split at h
    ·rename_i a b h1 h2;intro i z hz;cases i with
     |zero=>simp at hz;subst hz;exact⟨(),rfl,mV h1⟩
     |succ i=>obtain⟨_,_,h3⟩:=ih h2 i z (by simpa using hz);exact⟨(),rfl,h3⟩
    ·cases h
theorem Bd{kt:TypeId}{k x x':Value}{b:Bool}(h:qS P kt k x=some b)(hx:VR φ x x'):
  x'=x∧(∀w,(Op.equal kt k x').run P w= .ok b w)∧(b=true→x=k):=by
 unfold qS at h;split at h
 ·rename_i ks hc ha;split at h
  ·rename_i xs ys;cases hx with
   |agg e1 e2=>
    have hy:=(fC (φ:=φ) (xs':=xs.toList) h ⟨rfl,fun i p q h1 h2=>?_⟩ ⟨e1,e2⟩).2
    ·obtain rfl:=Array.toList_inj.1 hy;exact⟨rfl,fun w=>qF (Q1 hc).2 ha 10000 oM _ _ b w h,fun hb=>by subst hb;rw[Array.toList_inj.1 (oK h)]⟩
    ·rw[h1]at h2;cases h2;obtain⟨z,_,hz⟩:=sO h _ _ h1;exact VR.na0 hz
  ·cases h
 ·rename_i kk hc ha;obtain⟨k1,e,hk⟩:=dZ (d:=8) (Q1 hc).2 ha;cases e;have:=(iz h (VR.na0 (mV h)) hx).2;subst this;exact⟨rfl,fun w=>hk 9999 _ _ b w h,fun hb=>by subst hb;exact(ja h).symm⟩
 ·cases h
theorem lT{kt:TypeId}{k x:Value}{b c:Bool}{d:TypeDesc}(h:qS P kt k x=some b)(hs:Instr.sameNow d k x=some c):c=b:=by
 unfold qS at h;split at h
 ·split at h
  ·unfold Instr.sameNow at hs;split at hs<;>simp_all
  ·cases h
 ·unfold M6 at h;split at h
  ·unfold Instr.sameNow at hs;split at hs<;>first|(cases hs;done)|skip
   all_goals first|(rename_i e1 e2;cases e1;done)|skip
   all_goals simp_all
  ·split at h
   ·rename_i hk;subst hk;unfold Instr.sameNow at hs;split at hs<;>first|(cases hs;done)|skip
    all_goals simp_all
   ·cases h
  ·unfold Instr.sameNow at hs;split at hs<;>first|(cases hs;done)|skip
   all_goals simp_all
  ·cases h
 ·cases h
theorem tx{kt:TypeId}{k:Value}:∀{es:List (Value×Value)}{es':List MapEntry}{i:Nat}{r:Option (Nat×Value)},ji P kt k es i=some r→es.length=es'.length→
  (∀(j:Nat) a m,es[j]?=some a→es'[j]?=some m→VR φ a.1 m.key∧VR φ a.2 m.val)→
  ∃r',(∀w,(Instr.findAsking kt k es' i).run P w= .ok r' w)∧(∀d z,Instr.findNow d k es' i=some z→z=r')∧
   (match r,r' with|none,none=>True|some (j,v),some (j',v')=>j=j'∧VR φ v v'∧i≤j∧es[j-i]?=some (k,v)∧(es'[j-i]?).map (·.key)=some k|_,_=>False):=by
 intro es;induction es with
 |nil=>
  intro es' i r h hl he;cases es' with
  |cons _ _=>simp at hl
  |nil=>
   cases h;exact⟨none,fun w=>by simp [Instr.findAsking],fun d z hz=>by simp [Instr.findNow]at hz;exact hz.symm,trivial⟩
 |cons a es ih=>
  intro es' i r h hl he;obtain⟨ka,va⟩:=a;cases es' with
  |nil=>simp at hl
  |cons m es'=>
   obtain⟨hk,hv⟩:=he 0 (ka,va) m (by simp) (by simp);simp only[ji]at h;split at h
   ·rename_i hkey;cases h;obtain⟨e1,e2,e3⟩:=Bd hkey hk;have e4:=e3 rfl;refine⟨some (i,m.val),fun w=>?_,fun d z hz=>?_,rfl,hv,lR,by simp [e4],by simp [e1,e4]⟩
    ·simp [Instr.findAsking,e2 w]
    ·rw[Instr.findNow,e1]at hz;split at hz
     ·exact(Option.some.inj hz).symm
     ·rename_i hs;have:=lT hkey hs;cases this
     ·cases hz
   ·rename_i hkey;obtain⟨e1,e2,e3⟩:=Bd hkey hk;obtain⟨r',f1,f2,f3⟩:=ih h (by simpa using hl) (fun j a m' p q=>he (j+1) a m' (by simpa using p) (by simpa using q));refine⟨r',fun w=>?_,fun d z hz=>?_,?_⟩
    ·simp [Instr.findAsking,e2 w,f1 w]
    ·rw[Instr.findNow,e1]at hz;split at hz
     ·rename_i hs;have:=lT hkey hs;cases this
     ·exact f2 d z hz
     ·cases hz
    ·cases r with
     |none=>cases r'<;>first|exact f3|exact f3.elim
     |some q=>
      obtain⟨j,v⟩:=q;cases r' with
      |none=>exact f3.elim
      |some q'=>
       obtain⟨j',v'⟩:=q';obtain⟨g1,g2,g3,g4,g5⟩:=f3;refine⟨g1,g2,oM,?_,?_⟩
       ·rw[show j-i=(j-(i+1))+1 from oM];simpa using g4
       ·rw[show j-i=(j-(i+1))+1 from oM];simpa using g5
   ·cases h
theorem an{kt:TypeId}{k:Value}{es:List (Value×Value)}{es':List MapEntry}{r:Option (Nat×Value)}(hk:Z8 P kt k=true)(h:ji P kt k es 0=some r)(hl:es.length=es'.length)
  (he:∀(j:Nat) a m,es[j]?=some a→es'[j]?=some m→VR φ a.1 m.key∧VR φ a.2 m.val):
  ∃r',(∀w,(Instr.findKey kt k es').run P w= .ok r' w)∧
   (match r,r' with|none,none=>True|some (j,v),some (j',v')=>j=j'∧VR φ v v'∧es[j]?=some (k,v)∧(es'[j]?).map (·.key)=some k|_,_=>False):=by
 obtain⟨r',f1,f2,f3⟩:=tx h hl he;have hu:∃d,P.underlying kt=some d:=by
  unfold Z8 at hk;cases hc:eM P kt with
  |none=>simp [hc]at hk
  |some ks=>
   have:=(Q1 hc).2;unfold U2 at this;split at this<;>rename_i hu<;>first|exact⟨_,hu⟩|cases this
 obtain⟨d,hd⟩:=hu;refine⟨r',fun w=>?_,?_⟩
 ·simp only[Instr.findKey,Sem.run_bind,run_underlying hd,Result.andThen_ok];split
  ·rename_i z hz;rw[f2 d z hz];rfl
  ·exact f1 w
 ·cases r with
  |none=>cases r'<;>first|exact f3|exact f3.elim
  |some q=>
   cases r' with
   |none=>exact f3.elim
   |some q'=>obtain⟨g1,g2,g3,g4,g5⟩:=f3;exact⟨g1,g2,by simpa using g4,by simpa using g5⟩
theorem oe{t k e:TypeId}(h:rZ P t=some (k,e)):P.underlying t=some (.map k e):=by
 unfold rZ at h;split at h
 ·cases h;assumption
 ·cases h
theorem pl{H:d9}{t:TypeId}{m k m' k' v:Value}{ok:Bool}(hW:WR base w0 φ H.bs w)(h:eY P H t m k ok=some v)(hm:VR φ m m')(hk:VR φ k k'):
  ∃v',VR φ v v'∧∀w',Cls base w0 φ H.bs w w'→(Instr.lookup t m' k' ok).run P w'= .ok v' w':=by
 unfold eY at h;split at h
 rotate_left
 ·cases h
 rename_i kt et hmp;have hu:=oe hmp;split at h
 rotate_left
 ·cases h
 rename_i hfit;obtain rfl:=jo hfit hk;have wrap:∀(z z':Value)(b:Bool),VR φ z z'→VR φ (if ok then .tuple #[z,.bool b] else z) (if ok then .tuple #[z',.bool b] else z'):=by
  intro z z' b hz;cases ok
  ·exact hz
  ·exact VR.toTuple (a:=[z,.bool b]) (b:=[z',.bool b]) (.cons hz (.cons (.bool b) (.nil φ)))
 split at h
 ·rename_i b;split at h
  rotate_left
  ·cases h
  rename_i es hg;cases hm with
  |map hl=>
   rename_i l;obtain⟨l',hl',hbr⟩:=hW.loc hg;rw[hl]at hl';cases hl';obtain⟨hb,es',cl,h1,h2,h3⟩:=hbr;have hh:∀w',Cls base w0 φ H.bs w w'→w'.heap[l.blk]?=some (.map es' cl):=fun w' hc=>by rw[hc.same _ _ l hg (by simp) hl];exact h1
   split at h
   ·rename_i j va z hf hz;cases h;obtain⟨r',f1,f2⟩:=an (φ:=φ) hfit hf (by simpa using h2.symm) (fun j a m p q=>h3 j a.1 a.2 m p q);cases r' with
    |none=>exact f2.elim
    |some q=>
     obtain⟨j',v'⟩:=q;obtain⟨g1,g2,_⟩:=f2;refine⟨_,wrap va v' true g2,fun w' hc=>?_⟩;simp only[Instr.lookup,Sem.run_bind,run_underlying hu,Result.andThen_ok,getObj,Sem.run,hh w' hc,Y3 hfit,f1,Sem.run_pure]
   ·rename_i z hf hz;cases h;obtain⟨r',f1,f2⟩:=an (φ:=φ) hfit hf (by simpa using h2.symm) (fun j a m p q=>h3 j a.1 a.2 m p q);cases r' with
    |some q=>exact f2.elim
    |none=>
     refine⟨_,wrap z z false (VR.na1 (Y5 hz w).2),fun w' hc=>?_⟩;simp only[Instr.lookup,Sem.run_bind,run_underlying hu,Result.andThen_ok,getObj,Sem.run,hh w' hc,Y3 hfit,f1,Sem.run_pure,(Y5 hz w').1]
   ·cases h
 ·cases hm;simp only[Option.map_eq_some_iff]at h;obtain⟨z,hz,rfl⟩:=h;obtain⟨d,hd⟩:∃d,P.underlying kt=some d:=by
   unfold Z8 at hfit;cases hc:eM P kt with
   |none=>simp [hc]at hfit
   |some ks=>
    have:=(Q1 hc).2;unfold U2 at this;split at this<;>rename_i hu<;>first|exact⟨_,hu⟩|cases this
  refine⟨_,wrap z z false (VR.na1 (Y5 hz w).2),fun w' hc=>?_⟩;simp [Instr.lookup,run_underlying hu,Y3 hfit,Instr.findKey,run_underlying hd,Instr.findNow,(Y5 hz w').1]
 ·cases h
end
section
variable{P:Program}{base:Bs}{w0:World}{φ:List Loc}{S:List Blk}{w:World}
theorem T5{H:d9}{size n c:Nat}{a:Option Addr}{x':Value}{l:LV}(hW:WR base w0 φ H.bs w)(h:A3 H size (.slice a n c)=some l)(hx:VR φ (.slice a n c) x'):
  ∃a' c' l',x'= .slice a' n c'∧l'.length=n*size∧VRs φ l l'∧∀w',Cls base w0 φ H.bs w w'→∀k,k≤n→(Builtin.firstCells size k x').run P w'= .ok (l'.take (k*size)).toArray w':=by
 unfold A3 at h;split at h
 ·rename_i c0 e;cases e;cases h;cases hx;exact⟨none,0,[],rfl,by simp,.nil φ,fun w' _ k _=>by simp [Builtin.firstCells]⟩
 ·rename_i b o n0 c0 e;cases e;split at h
  ·rename_i hn;subst hn;cases h;have:∀a' c',∃a'' c'' l',(Value.slice (some a') 0 c')= .slice a'' 0 c''∧l'.length=0*size∧VRs φ [] l'∧∀w',Cls base w0 φ H.bs w w'→∀k,k≤0→(Builtin.firstCells size k (.slice (some a') 0 c')).run P w'= .ok (l'.take (k*size)).toArray w':=
    fun a' c'=>⟨some a',c',[],rfl,by simp,.nil φ,fun w' _ k hk=>(by have h0:k=0:=oM;subst h0;simp [Builtin.firstCells,loadCells,loadCellsFrom])⟩
   cases hx<;>exact this _ _
  ·rename_i hn;split at h
   rotate_left
   ·cases h
   rename_i cs own sz hg;split at h
   rotate_left
   ·cases h
   rename_i hlt;cases h;have fin:∀(lc:Loc) c',φ[b]?=some lc→∃a'' c'' l',(Value.slice (some ⟨lc.blk,lc.off+o,none⟩) n c')= .slice a'' n c''∧l'.length=n*size∧VRs φ ((cs.drop o).take (n*size)) l'∧
     ∀w',Cls base w0 φ H.bs w w'→∀k,k≤n→(Builtin.firstCells size k (.slice (some ⟨lc.blk,lc.off+o,none⟩) n c')).run P w'= .ok (l'.take (k*size)).toArray w':=by
    intro lc c' hl;obtain⟨ys,hv,hc⟩:=jc hW hg hl;have hlen:((ys.drop o).take (n*size)).length=n*size:=by have:=hv.1;simp;omega
    refine⟨_,_,_,rfl,hlen,(hv.drop o).take (n*size),fun w' hcl k hk=>?_⟩;simp only[Builtin.firstCells];have hks:k*size≤n*size:=Nat.mul_le_mul_right _ hk;rw[nU (hc w' hcl) o (k*size) (by rw[←hv.1];omega),List.take_take,Nat.min_eq_left hks]
   cases hx with
   |slice0=>exact absurd rfl hn
   |exact hl=>exact fin _ _ hl
   |slice hl=>exact fin _ _ hl
 ·cases h
theorem rh{l l':LV}{bs:List UInt8}(h:l.mapM bB=some bs)(hv:VRs φ l l'):l'=l:=by
 induction l generalizing l' bs with
 |nil=>exact hv.of_nil
 |cons x xs ih=>
  obtain⟨y,ys,rfl,h1,h2⟩:=hv.of_cons;simp only[List.mapM_cons,Option.bind_eq_bind,Option.pure_def]at h;cases hx:bB x with
  |none=>simp [hx]at h
  |some b=>
   cases hxs:xs.mapM bB with
   |none=>simp [hx,hxs]at h
   |some r=>
    have hy:y=x:=by
     unfold bB at hx;split at hx
     ·cases h1;rfl
     ·cases hx
    rw[hy,ih hxs h2]
theorem sL(l:LV):∀(acc:ByteArray)(bs:List UInt8)(w:World),l.mapM bB=some bs→
  (forIn l acc (fun c s=>(match c with
   | .int .u8 n=>pure (ForInStep.yield (s.push (UInt8.ofNat n.toNat)))
   |_=>(do stuck "bytesToString: byte expected";pure (ForInStep.yield s)):Sem (ForInStep ByteArray)))).run P w= .ok ⟨acc.data++bs.toArray⟩ w:=by
 induction l with
 |nil=>intro acc bs w h;simp at h;subst h;simp
 |cons x xs ih=>
  intro acc bs w h;simp only[List.mapM_cons,Option.bind_eq_bind,Option.pure_def]at h;cases hx:bB x with
  |none=>simp [hx]at h
  |some b=>
   cases hxs:xs.mapM bB with
   |none=>simp [hx,hxs]at h
   |some r=>
    simp [hx,hxs]at h;subst h;unfold bB at hx;split at hx
    ·cases hx;rw[List.forIn_cons];simp only[Sem.run_bind,Sem.run_pure,Result.andThen_ok,ih _ _ w hxs]
     congr 2
     simp [ByteArray.push]
    ·cases hx
theorem yc{nt:Nat}{e:Env}{ts:Array Value}(hE:ts.size=nt∧∀t,VR φ (e.get t) (ts.getD t undef)) {a:Act} (ha:a.tmps=ts) {x:Operand} (hx:C4 x=true):VR φ (opv e x) (a.eval x):=by
 cases x with
 |tmp t=>simpa [opv,Act.eval,ha] using hE.2 t
 |const v=>exact VR.na hx
 |global g=>cases hx
 |func f=>exact .func f rfl (fun i x y p=>by simp at p) rfl (fun i x y p=>by simp at p)
end
section
variable{P:Program}{base:Bs}{w0:World}{φ:List Loc}{S:List Blk}{w:World}
theorem Cls.drew{w':World}(h:Cls base w0 φ S w w'):Cls base w0 φ S w w'.drew:=
 ⟨h.wr.same_heap rfl rfl rfl rfl,fun b B l p q r=>h.same b B l p q r⟩
theorem mj(z:Array Value)(n:Nat):(Builtin.zeroCells z n).size=n*z.size:=by simp [Builtin.zeroCells]
theorem mR{H:d9}(hW:WR base w0 φ H.bs w){ts:List TypeId}{e size by' n:Nat}{x x':Value}{xs:LV}{z:LV}(he:ts.head?.bind (I2 P)=some e)(hs:z9 P e=some size)(hb:A7 P e=some by')
  (hz:B8 P e=some z) (hb0:by'≠0) (h:Z4 P H size (ts[1]?) x=some (n,xs)) (hx:VR φ x x'):
  ∃xs',VRs φ xs xs'∧xs'.length=n*size∧∀w',Cls base w0 φ H.bs w w'→∀bs sLen sCap ty,((sLen+n)*by'≤140737488355328∨n=0)→(n=0→sLen≤sCap)→
   (sLen+n≤sCap→(Builtin.append_ ts.toArray ty #[.slice bs sLen sCap,x']).run P w'=(match bs with
    |some a=>(storeCells (a.add (sLen*size)) xs').run P w'
    |none=> .ok () w').andThen fun _ w2=> .ok (.slice bs (sLen+n) sCap) w2)∧
   (¬sLen+n≤sCap→∀old:LV,(∀w2,Cls base w0 φ H.bs w w2→(Builtin.firstCells size sLen (.slice bs sLen sCap)).run P w2= .ok old.toArray w2)→
    ∃k rest,rest.length=k*size∧(Builtin.append_ ts.toArray ty #[.slice bs sLen sCap,x']).run P w'=
     .ok (.slice (some ⟨w'.heap.size,0,none⟩) (sLen+n) (sLen+n+k)) (w'.drew.alloc (.cells (old++xs'++rest).toArray e))):=by
 obtain⟨t,ts,rfl⟩:∃t r,ts=t::r:=by cases ts with
  |nil=>simp at he
  |cons t r=>exact⟨t,r,rfl⟩
 have hu:=V7 (by simpa using he);obtain⟨i,hi,hib⟩:∃i,P.info? e=some i∧i.bytes=by':=by
  unfold A7 at hb;cases hi:P.info? e with
  |none=>simp [hi]at hb
  |some i=>simp [hi]at hb;exact⟨i,rfl,hb⟩
 obtain⟨xt,d,hxt,hd,hni,hlen,xs',hv,hl,hf⟩:∃xt d,ts[0]?=some xt∧P.underlying xt=some d∧(d= .string∨∃e',d= .slice e')∧(∀w',(Builtin.lenOf x').run P w'= .ok n w')∧
   ∃xs',VRs φ xs xs'∧xs'.length=n*size∧∀w',Cls base w0 φ H.bs w w'→(Builtin.firstCells size n x').run P w'= .ok xs'.toArray w':=by
  unfold Z4 at h;have hd0:∀d,(((t::ts)[1]?).bind P.underlying)=some d→∃xt,ts[0]?=some xt∧P.underlying xt=some d:=by
   intro d hd;simp only[List.getElem?_cons_succ]at hd;cases hxt:ts[0]? with
   |none=>simp [hxt]at hd
   |some xt=>exact⟨xt,rfl,by simpa [hxt] using hd⟩
  split at h
  ·rename_i ee a m c hd;obtain⟨xt,h1,h2⟩:=hd0 _ hd;simp only[Option.map_eq_some_iff,Prod.mk.injEq]at h;obtain⟨l,hl,rfl,rfl⟩:=h;obtain⟨a',c',l',rfl,e1,e2,e3⟩:=T5 hW hl hx;exact⟨xt,_,h1,h2,.inr ⟨_,rfl⟩,fun w'=>rfl,l',e2,e1,fun w' hc=>by rw[e3 w' hc _ lR,List.take_of_length_le oM]⟩
  ·rename_i s hd;obtain⟨xt,h1,h2⟩:=hd0 _ hd;split at h
   ·rename_i hs1;simp only[Option.some.injEq,Prod.mk.injEq]at h;obtain⟨rfl,rfl⟩:=h;cases hx;refine⟨xt,_,h1,h2,.inl rfl,fun w'=>rfl,s.data.toList.map P9,VRs.map _ _ _ (fun b _=> .int _ _),by subst hs1;simp,fun w' _=>?_⟩;simp only[Builtin.firstCells,Sem.run_pure]
    congr 1
    have:s.extract 0 s.size=s:=by simp
    rw[this];apply Array.toList_inj.1;simp only[Array.toList_map];rfl
   ·cases h
  ·cases h
 refine⟨xs',hv,hl,fun w' hc bs sLen sCap ty hbound hn0=>?_⟩;have h1:(t::ts).toArray[1]?=some xt:=by simpa using hxt
 have g0:(t::ts).toArray[0]?=some t:=by simp
 have hti:(typeInfo e).run P w'= .ok i w':=by simp [typeInfo,hi]
 obtain⟨zv,hzr,hzc,hza,hzs⟩:=bj hz w'.drew;have hsz:zv.cells.size=size:=by
  rw[hs]at hzs;cases hzs;rw[←hzc];simp
 simp only[Builtin.append_];simp only[g0,h1,List.getElem?_toArray,List.getElem?_cons_zero,List.getElem?_cons_succ,Sem.run_bind,run_underlying hu,run_underlying hd,Result.andThen_ok,B9 hs,Sem.run_pure,
  ]
 clear hd;rcases hni with rfl|⟨_,rfl⟩
 all_goals
  simp only[Bool.false_eq_true,if_false,hlen,Bool.not_false,if_true,Sem.run_bind,Result.andThen_ok];refine⟨fun hfit=>?_,fun hfit old hold=>?_⟩
  ·simp only[if_pos hfit,Sem.run_bind,hf w' hc,Result.andThen_ok];cases bs<;>simp
  ·have hn:n≠0:=fun h0=>hfit (by subst h0;simpa using hn0 rfl);have hbd:=hbound.resolve_right hn;have hneed:sLen+n≤140737488355328:=by
    have:1≤by':=oM
    calc sLen+n=(sLen+n)*1:=by simp
     _≤(sLen+n)*by':=Nat.mul_le_mul_left _ this
     _≤_:=hbd
   have c1:¬(((sLen+n:Nat):Int)>IntKind.i64.max∧(False∨i.bytes=0)):=by rintro⟨h,_⟩;simp at h;omega
   have c2:¬Builtin.nextslicecap (sLen+n) sCap*i.bytes>2 ^ 48:=by
    have:=growslice_fits (need:=sLen+n) (old:=sCap) (bytes:=by') oM hbd;rw[hib];omega
   have hti2:(typeInfo e).run P w'.drew= .ok i w'.drew:=by simp [typeInfo,hi]
   have hch:(choose (Question.appendCap (sLen+n) sCap e)).run P w'= .ok (sLen+n+w'.tape w'.drawn (.appendCap (sLen+n) sCap e) % (2 ^ 63-(sLen+n))) w'.drew:=by
    rw[run_choose,if_neg (by simp [Question.forced])];rfl
   simp only[if_neg hfit,Sem.run_bind,hti,Result.andThen_ok,if_neg c1,if_neg c2,run_askRoom,hch,hti2,hold _ hc.drew,hf _ hc.drew,hzr,newRow,newObj,Sem.run,Sem.run_pure];generalize w'.tape w'.drawn (.appendCap (sLen+n) sCap e) % (2 ^ 63-(sLen+n))=k;refine⟨k,(Builtin.zeroCells zv.cells (sLen+n+k-(sLen+n))).toList,?_,?_⟩
   ·rw[Array.length_toList,mj,hsz];congr 1;omega
   ·have e1:old.toArray++xs'.toArray++Builtin.zeroCells zv.cells (sLen+n+k-(sLen+n))=(old++xs'++(Builtin.zeroCells zv.cells (sLen+n+k-(sLen+n))).toList).toArray:=by
     apply Array.toList_inj.1;simp
    rw[e1];rfl
end
end Go.Proofs.YtofbhlhamfkljaaGreatDoor.Ve
namespace Go.Proofs.YtofbhlhamfkljaaGreatDoor.Ve
open Go Go.RowKit
set_option linter.unusedVariables false
set_option linter.unusedSimpArgs false
set_option maxRecDepth 1000000
set_option maxHeartbeats 0
def E3(w:World)(g:Nat)(o:Obj):World:={w with heap:=w.heap.setIfInBounds g o}
section
variable{P:Program}{base:Bs}{w0:World}{φ:List Loc}{S:List Blk}{w:World}
theorem F1(w:World)(g:Nat)(o:Obj)(hg:g<w.heap.size):(E3 w g o).heap[g]?=some o:=by simp [E3,hg]
theorem Y6(w:World)(g j:Nat)(o:Obj)(h:g≠j):(E3 w g o).heap[j]?=w.heap[j]?:=by simp [E3,h]
theorem mJ(w:World)(g:Nat)(o o':Obj):E3 (E3 w g o) g o'=E3 w g o':=by simp [E3]
theorem aj(w:World)(g:Nat)(o:Obj):But w (E3 w g o) (some g):=⟨by simp [E3],fun j _ h=>Y6 w g j o (fun e=>h (by rw[e]))⟩
theorem P8{w:World}{g:Nat}{o:Obj}(h:Bel base.pr w0 w)(hg:¬base.pr g):Bel base.pr w0 (E3 w g o):=
 ⟨h.os,h.tape,h.output,by simpa [E3] using h.size,fun k hk=>by rw[Y6 w g k o (fun q=>hg (q▸hk))];exact h.block k hk⟩
theorem rM{w:World}{g:Nat}{o:Obj}(h:w.heap[g]?=some o):E3 w g o=w:=by
 obtain⟨hg,he⟩:=Array.getElem?_eq_some_iff.1 h;unfold E3;have:w.heap.setIfInBounds g o=w.heap:=by
  apply Array.ext_getElem?;intro i;rw[Array.getElem?_setIfInBounds];split
  ·rename_i hi;subst hi;simp [hg,he]
  ·rfl
 rw[this]
theorem eH{w:World}{g p:Nat}{cs:Array Value}{t:TypeId}{fz:Nat×Nat}(h:w.heap[g]?=some (.cells cs t fz))(v:Value):
  w.setCell ⟨g,p,none⟩ v=E3 w g (.cells (cs.setIfInBounds p v) t fz):=by
 unfold World.setCell E3
 congr 1
 apply Array.ext_getElem?;intro i;rw[Array.getElem?_modify,Array.getElem?_setIfInBounds];by_cases hi:g=i
 ·subst hi;have hlt:=(Array.getElem?_eq_some_iff.1 h).1;simp only[if_true,h,Option.map_some,hlt,Option.isSome_none,Bool.false_eq_true,if_false]
 ·simp [hi]
theorem Y9(g o:Nat)(t:TypeId)(fz:Nat×Nat):∀(vs:LV)(i:Nat)(cs:Array Value)(w:World),w.heap[g]?=some (.cells cs t fz)→o+i+vs.length≤cs.size→
  (∀p,p<o+i+vs.length→w.frozen? ⟨g,p,none⟩=false)→(∀v∈vs,v.oneCell'=true)→
  (storeCells ⟨g,o,none⟩ vs i).run P w= .ok () (E3 w g (.cells (splice cs.toList (o+i) vs).toArray t fz))
 |[],i,cs,w,hg,_,_,_=>by
  simp only[storeCells,Sem.run_pure,splice,Array.toArray_toList];rw[rM hg]
 |v::vs,i,cs,w,hg,hl,hf,h1=>by
  simp only[List.length_cons]at hl hf;have hc:w.cell? ⟨g,o+i,none⟩=some cs[o+i]:=by
   unfold World.cell?;simp only[hg,Option.isSome_none,Bool.false_eq_true,if_false];simp
  have hfr:=hf (o+i) oM;have hst:(store ((⟨g,o,none⟩:Addr).add i) v).run P w= .ok () (w.setCell ⟨g,o+i,none⟩ v):=by
   rw[Addr.add_none,run_store P w _ v _ (h1 v (by simp)),hc];simp only[hfr,Bool.false_eq_true,if_false]
  have hlt:=(Array.getElem?_eq_some_iff.1 hg).1;have hg2:=F1 w g (.cells (cs.setIfInBounds (o+i) v) t fz) hlt;simp only[storeCells,Sem.run_bind,hst,Result.andThen_ok,eH hg];rw[Y9 g o t fz vs (i+1) _ _ hg2 (by simp;omega) (fun p hp=>?_) (fun v hv=>h1 v (by simp [hv]))]
  ·rw[mJ];simp only[splice,Array.toList_setIfInBounds];rw[Nat.add_assoc]
  ·have:=hf p oM;rw[←eH hg,World.frozen?_setCell];exact this
theorem V6:∀(xs:LV)(c:LV)(o i:Nat),o+xs.length≤c.length→(splice c o xs)[i]?=if o≤i∧i<o+xs.length then xs[i-o]? else c[i]?
 |[],c,o,i,h=>by simp [splice];omega
 |x::xs,c,o,i,h=>by
  simp only[List.length_cons]at h;rw[splice,V6 xs (c.set o x) (o+1) i (by simp;omega)];simp only[List.length_cons,List.getElem?_set];by_cases h1:o=i
  ·subst h1;have:¬(o+1≤o∧o<o+1+xs.length):=oM;simp [this,show o<c.length from oM]
  ·by_cases h2:o+1≤i∧i<o+1+xs.length
   ·rw[if_pos h2,if_pos oM,show i-o=(i-(o+1))+1 from oM];simp
   ·rw[if_neg h2,if_neg h1,if_neg oM]
theorem di:∀(xs c:LV)(o:Nat)(v:Value),v∈splice c o xs→v∈c∨v∈xs
 |[],c,o,v,h=> .inl h
 |x::xs,c,o,v,h=>by
  rcases di xs (c.set o x) (o+1) v h with h|h
  ·rcases List.mem_or_eq_of_mem_set h with h|h
   ·exact .inl h
   ·exact .inr (by simp [h])
  ·exact .inr (by simp [h])
theorem WR.alloc{w1:World}(h:WR base w0 φ S w)(hh:w1.heap=w.heap)(ho:w1.os=w.os)(ht:w1.tape=w.tape)(hu:w1.output=w.output){c xs rest:LV}{e:TypeId}{sz:Nat}(hx:VRs φ c xs)(hone:∀x∈c,x.oneCell'=true):
  WR base w0 (φ++[⟨w.heap.size,0,xs.length+rest.length,sz⟩]) (S++[.cells c true sz]) (w1.alloc (.cells (xs++rest).toArray e))∧
   ∀(k:Nat)(o:Obj),w.heap[k]?=some o→(w1.alloc (.cells (xs++rest).toArray e)).heap[k]?=some o:=by
 have hold:∀k,k<w.heap.size→(w1.alloc (.cells (xs++rest).toArray e)).heap[k]?=w.heap[k]?:=fun k hk=>by
  rw[Below.heap_alloc _ _ _ (by rw[hh];exact hk),hh]
 have hnew:(w1.alloc (.cells (xs++rest).toArray e)).heap[w.heap.size]?=some (.cells (xs++rest).toArray e):=by
  rw[←hh];exact heap_alloc_new w1 _
 refine⟨h.push (l:=⟨w.heap.size,0,xs.length+rest.length,sz⟩) ⟨by simp [hh],fun j hj _=>hold j hj⟩ ?_ (fun _=>lR) ?_,fun k o hk=>by rw[hold k (Array.getElem?_eq_some_iff.1 hk).1];exact hk⟩
 ·exact(h.same_heap hh ho ht hu).below.alloc (by rw[hh];exact h.size) _
 ·have hxx:=Ext.snoc φ ⟨w.heap.size,0,xs.length+rest.length,sz⟩;refine⟨rfl,hone,fun i x hi=>?_,(by intro hf;cases hf),fun _=>⟨cG h.size,by show c.length≤xs.length+rest.length;rw[hx.1];omega,_,e,(0,0),hnew,by simp,fun i hi=>?_⟩⟩
  ·obtain⟨y,hy,hv⟩:=hx.get hi;refine⟨y,?_,hv.mono hxx⟩;unfold World.cell?;simp only[hnew,Option.isSome_none,Bool.false_eq_true,if_false,Nat.zero_add];have hlt:i<xs.length:=(List.getElem?_eq_some_iff.1 hy).1;simp [List.getElem?_append_left hlt,hy]
  ·unfold World.frozen?;simp only[hnew];simp
def ay(P:Program)(base:Bs)(w0:World)(φ:List Loc)(S:List Blk)(low:Nat)(S':List Blk)(w:World)(s:Sem Value)(v:Value):Prop:=
 ∃v' w' φ',s.run P w= .ok v' w'∧Ext φ φ'∧VR φ' v v'∧WR base w0 φ' S' w'∧Fr φ S low w w'
theorem Fr.of_old{low:Nat}{w':World}(h:WR base w0 φ S w)(hk:∀(k:Nat)(o:Obj),w.heap[k]?=some o→w'.heap[k]?=some o):Fr φ S low w w':=by
 intro b B l _ hb hd hl;have hbr:=h.blk b B l hb hl;have:∃o,w.heap[l.blk]?=some o:=by
  by_cases hm:B.mine=true
  ·have:=(hbr.lt hm).2;exact⟨_,Array.getElem?_eq_getElem this⟩
  ·cases B with
   |dead=>exact absurd rfl hd
   |cells c own sz=>
    have:own=false:=by simpa [Blk.mine] using hm
    subst this;exact⟨_,Array.getElem?_eq_getElem (h.size _ hbr.below)⟩
   |map es=>exact absurd rfl hm
   |iter s p=>exact absurd rfl hm
 obtain⟨o,ho⟩:=this;rw[ho,hk _ _ ho]
theorem Fr.of_put{low b:Nat}{B:Blk}{l:Loc}{o:Obj}(h:WR base w0 φ S w)(hb:S[b]?=some B)(hl:φ[b]?=some l)(hm:B.mine=true)(hlow:low≤b):Fr φ S low w (E3 w l.blk o):=by
 intro c C lc hc hC hd hlc;refine Y6 w _ _ _ ?_;by_cases hmC:C.mine=true
 ·exact h.sep b c B C l lc oM hb hC hm hmC hl hlc
 ·cases C with
  |dead=>exact absurd rfl hd
  |cells cc own sz=>
   have:own=false:=by simpa [Blk.mine] using hmC
   subst this;have h1:=(h.blk c _ lc hC hlc).below;have h2:=((h.blk b B l hb hl).lt hm).1;exact fun q=>h2 (q▸h1)
  |map es=>exact absurd rfl hmC
  |iter s p=>exact absurd rfl hmC
theorem yD{t:TypeId}{H H':d9}{a x a' x':Value}(hW:WR base w0 φ H.bs w)(h:sto P t H a x=some H')(ha:VR φ a a')(hx:VR φ x x'):
  ∃w',(Instr.storeAt t a' x').run P w= .ok () w'∧WR base w0 φ H'.bs w'∧Fr φ H.bs H'.low w w':=by
 unfold sto at h;split at h
 rotate_left
 ·cases h
 rename_i b o;split at h
 rotate_left
 ·cases h
 rename_i c sz hg;split at h
 rotate_left
 ·cases h
 rename_i hcond;obtain⟨hs,hlen,hone⟩:=hcond;cases h;cases ha with
 |ptr hl=>
  rename_i l;obtain⟨l',hl',hbr⟩:=hW.loc hg;rw[hl]at hl';cases hl';obtain⟨h0,hcone,h1,h2,h3⟩:=hbr;obtain⟨hb,hcap,cs,tt,fz,hh,hsz,hfz⟩:=h3 rfl;have hxc:=hx.cells hone;have hxl:=hxc.1;have hone':∀v∈x'.cells.toList,v.oneCell'=true:=by
   intro v hv;obtain⟨i,hi⟩:=List.getElem?_of_mem hv;have hi':i<x.cells.toList.length:=by rw[hxl];exact(List.getElem?_eq_some_iff.1 hi).1
   have:=hxc.2 i x.cells.toList[i] v (by simp [hi']) hi;have ho:=List.all_eq_true.1 hone x.cells.toList[i] (by simp);rw[this.oneCell ho];exact ho
  have hrun:=Y9 (P:=P) l.blk (l.off+o) tt fz x'.cells.toList 0 cs w hh oM (fun p hp=>hfz p oM) hone';refine⟨E3 w l.blk (.cells (splice cs.toList (l.off+o+0) x'.cells.toList).toArray tt fz),?_,hW.put (l:=l) hg hl rfl (aj w l.blk _) (P8 hW.below hb) ?_,Fr.of_put hW hg hl rfl (Nat.min_le_right _ _)⟩
  ·have hs':x'.cells.toList.length=x.cells.toList.length:=hxl.symm;have:x'.cells.size=x.cells.toList.length:=by rw[←hs'];simp
   simp only[Instr.storeAt,Instr.sureAddr,storeVar,Sem.run_bind,Sem.run_pure,Result.andThen_ok,B9 hs,this,ne_eq,not_true_eq_false,if_false];exact hrun
  ·have hlt:=(Array.getElem?_eq_some_iff.1 hh).1;refine⟨h0,fun v hv=>(di _ _ _ v hv).elim (hcone v) (fun h=>List.all_eq_true.1 hone v h),fun i y hy=>?_,(by intro hf;cases hf),fun _=>⟨hb,by rw[D9];exact hcap,_,tt,fz,F1 w _ _ hlt,by simp [D9];exact hsz,fun i hi=>?_⟩⟩
   ·rw[V6 _ _ _ _ hlen]at hy;have cellv:∀j,(E3 w l.blk (.cells (splice cs.toList (l.off+o+0) x'.cells.toList).toArray tt fz)).cell? ⟨l.blk,j,none⟩=(splice cs.toList (l.off+o) x'.cells.toList)[j]?:=by
     intro j;unfold World.cell?;simp [F1 w _ _ hlt]
    rw[cellv,V6 _ _ _ _ (by have:cs.toList.length=cs.size:=(by simp);omega)];split at hy
    ·rename_i hin;obtain⟨z,hz,hv⟩:=hxc.get hy;refine⟨z,?_,hv⟩;rw[if_pos oM,show l.off+i-(l.off+o)=i-o from oM];exact hz
    ·rename_i hin;obtain⟨z,hz,hv⟩:=h1 i y hy;refine⟨z,?_,hv⟩;rw[if_neg oM];unfold World.cell? at hz
     simpa [hh] using hz
   ·have:=hfz i hi;unfold World.frozen? at this ⊢;simp only[hh]at this;simp only[F1 w _ _ hlt];exact this
theorem gP{l:LV}(h:l.all Ve.na0=true):∀x∈l,x.oneCell'=true:=fun x hx=>by
 have:=List.all_eq_true.1 h x hx;unfold Ve.na0 at this;split at this<;>first|rfl|cases this
theorem O8{l:Loc}(hW:WR base w0 φ S w):(φ++[l])[S.length]?=some l:=by rw[←hW.len];simp
theorem aZ{H:d9}(hW:WR base w0 φ H.bs w){s:Sem Value}{c xs rest:LV}{e:TypeId}{sz low:Nat}{v v':Value}{w1:World}(hh:w1.heap=w.heap)(ho:w1.os=w.os)(ht:w1.tape=w.tape)(hu:w1.output=w.output)
  (hx:VRs φ c xs) (hone:∀x∈c,x.oneCell'=true) (hr:s.run P w= .ok v' (w1.alloc (.cells (xs++rest).toArray e))) (hv:VR (φ++[⟨w.heap.size,0,xs.length+rest.length,sz⟩]) v v'):
  ay P base w0 φ H.bs low (H.push (.cells c true sz)).bs w s v:=by
 obtain⟨h1,h2⟩:=hW.alloc (e:=e) (rest:=rest) (sz:=sz) hh ho ht hu hx hone;exact⟨v',_,_,hr,Ext.snoc _ _,hv,h1,Fr.of_old hW h2⟩
theorem pQ{H:d9}(hW:WR base w0 φ H.bs w){t:TypeId}{z:LV}(hz:B8 P t=some z)(low:Nat):
  ay P base w0 φ H.bs low (H.push (.cells z true 1)).bs w (Instr.alloc t true (.tuple #[])) (.pointer (some ⟨H.next,0,none⟩)):=by
 obtain⟨zv,h1,h2,h3,h4⟩:=bj hz w;subst h2;refine aZ hW (w1:=w) (xs:=zv.cells.toList) (rest:=[]) (e:=t) rfl rfl rfl rfl (VRs.na0 h3) (gP h3) (v':= .pointer (some ⟨w.heap.size,0,none⟩)) ?_ ?_
 ·simp only[Instr.alloc,Sem.run_bind,h1,Result.andThen_ok,newVar,newRow,newObj,Sem.run,Sem.run_pure,List.append_nil,Array.toArray_toList];rfl
 ·exact VR.ptr (l:=⟨w.heap.size,0,_,1⟩) (o:=0) (O8 hW)
theorem wC{H:d9}(hW:WR base w0 φ H.bs w){t:TypeId}{x x':Value}(hx:VR φ x x')(hone:x.cells.toList.all Value.oneCell'=true)(low:Nat):
  ay P base w0 φ H.bs low (H.push (.cells x.cells.toList true 1)).bs w (Instr.box t x') (.pointer (some ⟨H.next,0,none⟩)):=by
 refine aZ hW (w1:=w) (xs:=x'.cells.toList) (rest:=[]) (e:=t) rfl rfl rfl rfl (hx.cells hone) (fun x hx=>List.all_eq_true.1 hone x hx) (v':= .pointer (some ⟨w.heap.size,0,none⟩)) ?_ ?_
 ·simp only[Instr.box,Sem.run_bind,newVar,newRow,newObj,Sem.run,Sem.run_pure,Result.andThen_ok,List.append_nil,Array.toArray_toList];rfl
 ·exact VR.ptr (l:=⟨w.heap.size,0,_,1⟩) (o:=0) (O8 hW)
theorem Nx(z:LV)(n:Nat)(hz:z.length≠0):((List.range (n*z.length)).map fun i=>z.toArray[i % z.toArray.size]!)=(List.replicate n z).flatten:=by
 induction n with
 |zero=>simp
 |succ n ih=>
  rw[Nat.succ_mul,List.range_add,List.map_append,ih,List.replicate_succ',List.flatten_append]
  congr 1
  simp only[List.map_map,List.flatten_cons,List.flatten_nil,List.append_nil];apply List.ext_getElem
  ·simp
  ·intro i h1 h2;simp only[List.length_map,List.length_range]at h1;simp only[List.getElem_map,List.getElem_range,Function.comp_apply,List.size_toArray];rw[Nat.mul_add_mod_self_right,Nat.mod_eq_of_lt h1];simp [h1]
theorem qA{place:Nat→Option (Nat×Nat)}:∀{parts:List (Nat×Value)}{cs l:LV},Q6 place cs parts=some l→(∀x∈cs,x.oneCell'=true)→(∀p∈parts,∀x∈p.2.cells.toList,x.oneCell'=true)→∀x∈l,x.oneCell'=true:=by
 intro parts;induction parts with
 |nil=>intro cs l h hc _;simp only[Q6,Option.some.injEq]at h;subst h;exact hc
 |cons p parts ih=>
  intro cs l h hc hp;obtain⟨i,v⟩:=p;simp only[Q6]at h;split at h
  ·cases h
  ·split at h
   ·cases h
   ·exact ih h (fun x hx=>(di _ _ _ x hx).elim (hc x) (hp (i,v) (by simp) x)) (fun p hq=>hp p (by simp [hq]))
theorem iv{H H':d9}(hW:WR base w0 φ H.bs w){t:TypeId}{len:Nat}{parts parts':List (Nat×Value)}{v:Value}(h:O9 P H t len parts=some (v,H'))(hp:fY φ parts parts')(low:Nat):
  ay P base w0 φ H.bs low H'.bs w (Instr.buildSlice t len parts'.toArray) v:=by
 unfold O9 at h;split at h
 rotate_left
 ·cases h
 rename_i e he;have hu:=V7 he;split at h
 rotate_left
 ·cases h
 rename_i z hz;split at h
 ·cases h
 rename_i hb;split at h
 rotate_left
 ·cases h
 rename_i cs hcs;cases h;obtain⟨zv,h1,h2,h3,h4⟩:=bj hz w;subst h2;have hz0:zv.cells.toList.length≠0:=fun h=>hb (.inl h);have hsz:zv.cells.size=zv.cells.toList.length:=by simp
 obtain⟨cs',e1,e2⟩:=cZ hcs (φ:=φ) (cs':=(List.replicate len zv.cells.toList).flatten) (VRs.na0 (by
  simp only[List.all_flatten,List.all_replicate];simp [h3])) hp
 refine aZ hW (w1:=w) (xs:=cs') (rest:=[]) (e:=e) rfl rfl rfl rfl e2 (qA hcs (gP (by simp only[List.all_flatten,List.all_replicate];simp [h3])) (fun p hp=>by
   have:=(Bool.not_eq_false _).mp (fun h=>hb (.inr (.inr h)));exact fun x hx=>List.all_eq_true.1 (List.all_eq_true.1 this p hp) x hx)) (v':= .slice (some ⟨w.heap.size,0,none⟩) len len) ?_ ?_
 ·have hrange:(Array.range (len*zv.cells.toList.length)).map (fun i=>zv.cells[i % zv.cells.size]!)=(List.replicate len zv.cells.toList).flatten.toArray:=by
   apply Array.toList_inj.1;rw[←Nx zv.cells.toList len hz0];simp
  have c1:¬len*zv.cells.toList.length>2 ^ 24:=oM;by_cases hl0:len*zv.cells.toList.length=0
  ·have:len=0:=by
    rcases Nat.mul_eq_zero.1 hl0 with h|h
    ·exact h
    ·exact absurd h hz0
   subst this;simp only[List.replicate_zero,List.flatten_nil]at e1;simp only[Instr.buildSlice,Sem.run_bind,run_underlying hu,Result.andThen_ok,B9 h4,if_neg c1,hl0,if_true,Sem.run_pure];simp only[Array.range_zero',Array.map_empty,e1,Sem.run_bind,newRow,newObj,Sem.run,Sem.run_pure,Result.andThen_ok,List.append_nil];rfl
  ·simp only[Instr.buildSlice,Sem.run_bind,run_underlying hu,Result.andThen_ok,B9 h4,if_neg c1,if_neg hl0,h1,Sem.run_pure,hrange,e1,newRow,newObj,Sem.run,List.append_nil];rfl
 ·exact VR.exact (l:=⟨w.heap.size,0,_,_⟩) (o:=0) (O8 hW)
theorem jH{H H':d9}(hW:WR base w0 φ H.bs w){t:TypeId}{x y x' y' v:Value}(h:V3 P H t x y=some (v,H'))(hx:VR φ x x')(hy:VR φ y y')(low:Nat):
  ay P base w0 φ H.bs low H'.bs w (Instr.makeSlice t x' y') v:=by
 unfold V3 at h;split at h
 rotate_left
 ·cases h
 rename_i e k n k' m he;have hu:=V7 he;split at h
 rotate_left
 ·cases h
 rename_i z by' hz hby
 split at h
 rotate_left
 ·cases h
 rename_i hcond;obtain⟨hz0,hn0,hnm,hm1,hm2⟩:=hcond;cases h;cases hx;cases hy;obtain⟨zv,h1,h2,h3,h4⟩:=bj hz w;subst h2;obtain⟨i,hi,hib⟩:∃i,P.info? e=some i∧i.bytes=by':=by
  unfold A7 at hby
  cases hi:P.info? e with
  |none=>simp [hi]at hby
  |some i=>simp [hi]at hby;exact⟨i,rfl,hby⟩
 have hti:(typeInfo e).run P w= .ok i w:=by simp [typeInfo,hi]
 have wn:IntKind.i64.wrap n=n:=wrap_small n oM oM;have wm:IntKind.i64.wrap m=m:=wrap_small m oM oM;have hsplit:(List.replicate m.toNat zv.cells.toList).flatten=(List.replicate n.toNat zv.cells.toList).flatten++(List.replicate (m.toNat-n.toNat) zv.cells.toList).flatten:=by
  rw[←List.flatten_append,List.replicate_append_replicate]
  congr 2
  omega
 have hlen:((List.replicate n.toNat zv.cells.toList).flatten.length+(List.replicate (m.toNat-n.toNat) zv.cells.toList).flatten.length)=m.toNat*zv.cells.toList.length:=by
  rw[←List.length_append,←hsplit];simp
 refine aZ hW (w1:=w) (xs:=(List.replicate n.toNat zv.cells.toList).flatten) (rest:=(List.replicate (m.toNat-n.toNat) zv.cells.toList).flatten) (e:=e) rfl rfl rfl rfl
  (VRs.na0 (by simp only[List.all_flatten,List.all_replicate];simp [h3])) (gP (by simp only[List.all_flatten,List.all_replicate];simp [h3])) (v':= .slice (some ⟨w.heap.size,0,none⟩) n.toNat m.toNat) ?_ ?_
 ·rw[←hsplit];have c1:¬(m<0∨(i.bytes:Int)*m>2 ^ 48):=by rw[hib];omega
  have c2:¬((decide (m<0)||decide ((i.bytes:Int)*m>2 ^ 48)||decide (n<0)||decide (n>m))=true):=by
   rw[hib];simp only[Bool.or_eq_true,decide_eq_true_eq];omega
  have hcells:(if m.toNat*zv.cells.toList.length=0 then(#[]:Array Value) else zv.cells)=zv.cells∨m.toNat*zv.cells.toList.length=0:=by
   by_cases h0:m.toNat*zv.cells.toList.length=0
   ·exact .inr h0
   ·left;rw[if_neg h0]
  have hrange:(Array.range (m.toNat*zv.cells.toList.length)).map (fun i=>zv.cells[i % zv.cells.size]!)=(List.replicate m.toNat zv.cells.toList).flatten.toArray:=by
   apply Array.toList_inj.1;rw[←Nx zv.cells.toList m.toNat hz0];simp
  by_cases h0:m.toNat*zv.cells.toList.length=0
  ·have hm0:m.toNat=0:=by
    rcases Nat.mul_eq_zero.1 h0 with h|h
    ·exact h
    ·exact absurd h hz0
   simp only[Instr.makeSlice,Sem.run_bind,run_underlying hu,Result.andThen_ok,asInt,asIntOf,Sem.run_pure,hti,wn,wm,c2,if_false,run_askRoom,B9 h4,h0,if_true,newRow,newObj,Sem.run];simp only[hm0,Sem.run_bind,run_askRoom,B9 h4,Nat.zero_mul,if_true,Sem.run_pure,Sem.run,Array.range_zero',Array.map_empty,List.replicate_zero,List.flatten_nil,Bool.false_eq_true,if_false,Result.andThen_ok];rfl
  ·simp only[Instr.makeSlice,Sem.run_bind,run_underlying hu,Result.andThen_ok,asInt,asIntOf,Sem.run_pure,hti,wn,wm,c2,if_false,run_askRoom,B9 h4,if_neg h0,h1,newRow,newObj,Sem.run,hrange,Bool.false_eq_true];rfl
 ·refine VR.slice (l:=⟨w.heap.size,0,_,_⟩) (o:=0) (O8 hW) oM ?_;simp only[Nat.zero_add];rw[hlen];exact lR
theorem rt{H:d9}(hW:WR base w0 φ H.bs w){B:Blk}{o:Obj}(hB:∀φ',BR base φ' B ⟨w.heap.size,0,0,0⟩ (w.alloc o)):WR base w0 (φ++[⟨w.heap.size,0,0,0⟩]) (H.push B).bs (w.alloc o)∧∀low,Fr φ H.bs low w (w.alloc o):=by
 refine⟨hW.push (l:=⟨w.heap.size,0,0,0⟩) ⟨by simp,fun j hj _=>Below.heap_alloc _ _ _ hj⟩ (hW.below.alloc hW.size _) (fun _=>lR) (hB _),fun low=>Fr.of_old hW fun k o' hk=>?_⟩;rw[Below.heap_alloc _ _ _ (Array.getElem?_eq_some_iff.1 hk).1];exact hk
theorem mC{H:d9}(hW:WR base w0 φ H.bs w)(t:TypeId)(low:Nat):
  ay P base w0 φ H.bs low (H.push (.map [])).bs w (Instr.makeMap t none) (.map (some H.next)):=by
 obtain⟨h1,h2⟩:=rt hW (B:= .map []) (o:= .map #[] 0) (fun φ'=>⟨cG hW.size,#[],0,heap_alloc_new w _,rfl,fun i k v m p=>by simp at p⟩);refine⟨.map (some w.heap.size),w.alloc (.map #[] 0),_,?_,Ext.snoc _ _,VR.map (l:=⟨w.heap.size,0,0,0⟩) (O8 hW),h1,h2 low⟩;simp only[Instr.makeMap,Sem.run_bind,newObj,Sem.run,Result.andThen_ok,Sem.run_pure];rfl
theorem rx{H:d9}(hW:WR base w0 φ H.bs w){t:TypeId}{s:ByteArray}(hu:P.underlying t=some .string)(low:Nat):
  ay P base w0 φ H.bs low (H.push (.iter s 0)).bs w (Instr.range t (.string s)) (.pointer (some ⟨H.next,0,none⟩)):=by
 obtain⟨h1,h2⟩:=rt hW (B:= .iter s 0) (o:= .stringIter s 0) (fun φ'=>⟨cG hW.size,rfl,heap_alloc_new w _⟩);refine⟨.pointer (some ⟨w.heap.size,0,none⟩),w.alloc (.stringIter s 0),_,?_,Ext.snoc _ _,VR.ptr (l:=⟨w.heap.size,0,0,0⟩) (o:=0) (O8 hW),h1,h2 low⟩;simp only[Instr.range,Sem.run_bind,run_underlying hu,Result.andThen_ok,Sem.run_pure,newObj,Sem.run];rfl
theorem du{r:Nat}{o:Obj}{w:World}(h:w.heap[r]?=some o)(hn:∀c t f,o≠ .cells c t f):(getObj r).run P w= .ok o w:=by
 unfold getObj;simp only[Sem.run,h]
 try (split<;>first|(exfalso;exact hn _ _ _ rfl)|rfl)
theorem fT{r:Nat}{o o':Obj}{w:World}(h:w.heap[r]?=some o)(hn:∀c t f,o≠ .cells c t f):(setObj r o').run P w= .ok () (E3 w r o'):=by
 unfold setObj;simp only[Sem.run,h];cases o<;>first|rfl|exact absurd rfl (hn _ _ _)
theorem xX{H H':d9}{it it' v:Value}(hW:WR base w0 φ H.bs w)(h:gQ H it=some (v,some H'))(hi:VR φ it it')(ty:TypeId):
  ay P base w0 φ H.bs H'.low H'.bs w (Instr.next it' true ty) v:=by
 unfold gQ at h;split at h
 rotate_left
 ·cases h
 rename_i b;split at h
 rotate_left
 ·cases h
 rename_i s pos hg;split at h
 rotate_left
 ·simp at h
 rename_i hpos;simp only[Option.some.injEq,Prod.mk.injEq]at h;obtain⟨rfl,rfl⟩:=h;cases hi with
 |ptr hl=>
  rename_i l;obtain⟨l',hl',hbr⟩:=hW.loc hg;rw[hl]at hl';cases hl';obtain⟨hb,hl0,hh⟩:=hbr;have hlt:=(Array.getElem?_eq_some_iff.1 hh).1;refine⟨.tuple #[.bool true,goInt pos,.int .i32 (Utf8.decode s pos).1],E3 w l.blk (.stringIter s (pos+(Utf8.decode s pos).2)),φ,?_,Ext.refl φ,VR.na (by rfl),
   hW.put (l:=l) hg hl rfl (aj w l.blk _) (P8 hW.below hb) ⟨hb,hl0,F1 w _ _ hlt⟩,Fr.of_put hW hg hl rfl (Nat.min_le_right _ _)⟩
  have hz:l.off+0=0:=oM;rw[hz];simp only[Instr.next,Sem.run_bind,du hh (by simp),Result.andThen_ok,if_pos hpos,fT hh (by simp),Sem.run_pure]
theorem xV{H:d9}{it it' v:Value}(hW:WR base w0 φ H.bs w)(h:gQ H it=some (v,none))(hi:VR φ it it')(ty:TypeId):fW P base w0 φ H.bs w (Instr.next it' true ty) v:=by
 unfold gQ at h;split at h
 rotate_left
 ·cases h
 rename_i b;split at h
 rotate_left
 ·cases h
 rename_i s pos hg;split at h
 ·simp at h
 rename_i hpos;simp only[Option.some.injEq,Prod.mk.injEq]at h;obtain⟨rfl,_⟩:=h;cases hi with
 |ptr hl=>
  rename_i l;obtain⟨l',hl',hbr⟩:=hW.loc hg;rw[hl]at hl';cases hl';obtain⟨hb,hl0,hh⟩:=hbr;refine⟨.tuple #[.bool false],VR.na (by rfl),fun w' hc=>?_⟩;have hh':w'.heap[l.blk]?=some (.stringIter s pos):=by rw[hc.same _ _ l hg (by simp) hl];exact hh
  have hz:l.off+0=0:=oM;rw[hz];simp only[Instr.next,Sem.run_bind,du hh' (by simp),Result.andThen_ok,if_neg hpos,Sem.run_pure]
theorem nz{k:D1}{x:Value}(h:kV k x=true)(n:Nat):Instr.sameBits n x x=true:=by
 unfold kV at h;split at h
 ·simp [Instr.sameBits]
 ·simp [Instr.sameBits]
 ·simp [Instr.sameBits,iy]
 ·cases h
theorem qW{ks:List D1}{xs:LV}(h:T9 ks xs=true)(n:Nat):((xs.zip xs).all fun(x,y)=>Instr.sameBits n x y)=true:=by
 induction ks generalizing xs with
 |nil=>cases xs with
  |nil=>rfl
  |cons _ _=>cases h
 |cons k ks ih=>
  cases xs with
  |nil=>cases h
  |cons x xs=>
   simp only[T9,Bool.and_eq_true]at h;simp only[List.zip_cons_cons,List.all_cons,nz h.1,Bool.true_and];exact ih h.2
theorem qT{kt:TypeId}{k:Value}(h:Z8 P kt k=true):Instr.sameBits 10000 k k=true:=by
 unfold Z8 at h;split at h
 ·show Instr.sameBits (9999+1) _ _=true;simp only[Instr.sameBits,beq_self_eq_true,Bool.true_and];exact qW h _
 ·rename_i ks hc ha;obtain⟨kk,rfl⟩:=gB (Q1 hc).2 ha;simp only[T9,Bool.and_true]at h;exact nz h _
 ·cases h
theorem jI{H H':d9}{t:TypeId}{m k v m' k' v':Value}(hW:WR base w0 φ H.bs w)(h:V4 P H t m k v=some H')(hm:VR φ m m')(hk:VR φ k k')(hv:VR φ v v'):
  ∃w',(Instr.mapUpdate t m' k' v').run P w= .ok () w'∧WR base w0 φ H'.bs w'∧Fr φ H.bs H'.low w w':=by
 unfold V4 at h;split at h
 rotate_left
 ·cases h
 rename_i kt et hmp;have hu:=oe hmp;split at h
 rotate_left
 ·cases h
 rename_i hfit;obtain rfl:=jo hfit hk;split at h
 rotate_left
 ·cases h
 rename_i b;split at h
 rotate_left
 ·cases h
 rename_i es hg;cases hm with
 |map hl=>
  rename_i l;obtain⟨l',hl',hbr⟩:=hW.loc hg;rw[hl]at hl';cases hl';obtain⟨hb,es',cl,h1,h2,h3⟩:=hbr;have hlt:=(Array.getElem?_eq_some_iff.1 h1).1;split at h
  ·rename_i j va hf;cases h;obtain⟨r',f1,f2⟩:=an (φ:=φ) hfit hf (by simpa using h2.symm) (fun j a m p q=>h3 j a.1 a.2 m p q);cases r' with
   |none=>exact f2.elim
   |some q=>
    obtain⟨j',v2⟩:=q;obtain⟨rfl,g2,g3,g4⟩:=f2;have hjlt:j<es'.size:=by rw[h2];exact(List.getElem?_eq_some_iff.1 g3).1
    obtain⟨en,hen⟩:∃en,es'[j]?=some en:=⟨es'[j],by simp [hjlt]⟩
    have hkey:en.key=k':=by
     have:es'.toList[j]?=some en:=by simpa using hen
     rw[this]at g4;simpa using g4
    have hkeep:(Instr.keyThatStays (((es'[j]?).map (·.key)).getD k') k').run P w= .ok k' w:=by
     rw[hen];simp only[Option.map_some,Option.getD_some,hkey,Instr.keyThatStays];rw[if_pos (qT hfit)];rfl
    refine⟨E3 w l.blk (.map (es'.modify j fun e=>{e with key:=k',val:=v'}) cl),?_,hW.put (l:=l) hg hl rfl (aj w l.blk _) (P8 hW.below hb) ⟨hb,_,cl,F1 w _ _ hlt,by simp [h2],?_⟩,Fr.of_put hW hg hl rfl (Nat.min_le_right _ _)⟩
    ·simp only[Instr.mapUpdate,Sem.run_bind,run_underlying hu,Result.andThen_ok,du h1 (by simp),Y3 hfit,f1,hkeep,fT h1 (by simp)]
    ·intro i k1 v1 m1 p q;rw[List.getElem?_set]at p;have q':(es'.modify j fun e=>{e with key:=k',val:=v'})[i]?=some m1:=by rw[Array.getElem?_toList]at q;exact q
     rw[Array.getElem?_modify]at q';by_cases hij:j=i
     ·subst hij;rw[if_pos rfl]at p q';split at p
      ·cases p;rw[hen]at q';simp only[Option.map_some,Option.some.injEq]at q';subst q';exact⟨hk,hv⟩
      ·cases p
     ·rw[if_neg hij]at p q';exact h3 i k1 v1 m1 p (by simpa using q')
  ·rename_i hf;cases h;obtain⟨r',f1,f2⟩:=an (φ:=φ) hfit hf (by simpa using h2.symm) (fun j a m p q=>h3 j a.1 a.2 m p q);cases r' with
   |some q=>exact f2.elim
   |none=>
    refine⟨E3 w l.blk (.map (es'.push {key:=k',val:=v',born:=cl}) (cl+1)),?_,hW.put (l:=l) hg hl rfl (aj w l.blk _) (P8 hW.below hb) ⟨hb,_,_,F1 w _ _ hlt,by simp [h2],?_⟩,Fr.of_put hW hg hl rfl (Nat.min_le_right _ _)⟩
    ·simp only[Instr.mapUpdate,Sem.run_bind,run_underlying hu,Result.andThen_ok,du h1 (by simp),Y3 hfit,f1,fT h1 (by simp)]
    ·intro i k1 v1 m1 p q;have q':(es'.push {key:=k',val:=v',born:=cl})[i]?=some m1:=by rw[Array.getElem?_toList]at q;exact q
     rw[Array.getElem?_push]at q';by_cases hi:i=es'.size
     ·rw[if_pos hi]at q';cases q';rw[hi,h2]at p;simp at p;obtain⟨rfl,rfl⟩:=p;exact⟨hk,hv⟩
     ·rw[if_neg hi]at q';have hlt':i<es.length:=by have:=(Array.getElem?_eq_some_iff.1 q').1;omega
      rw[List.getElem?_append_left hlt']at p;exact h3 i k1 v1 m1 p (by simpa using q')
  ·cases h
end
section
variable{P:Program}{base:Bs}{w0:World}{φ:List Loc}{S:List Blk}{w:World}
theorem WR.move{w':World}(h:WR base w0 φ S w){b:Nat}{B B2:Blk}{l l2:Loc}(hb:S[b]?=some B)(hl:φ[b]?=some l)(hm:B.mine=true)
  (hw:But w w' (some l.blk)) (hbel:Bel base.pr w0 w') (he:l2.blk=l.blk) (hB:BR base (φ++[l2]) B2 l2 w'):WR base w0 (φ++[l2]) (S.set b .dead++[B2]) w':=by
 have hx:Ext φ (φ++[l2]):=Ext.snoc φ l2;have hlb:=(h.blk b B l hb hl).lt hm;have old:∀(c:Nat) C,(S.set b .dead++[B2])[c]?=some C→(c<S.length∧(C= .dead∨(c≠b∧S[c]?=some C)))∨(c=S.length∧C=B2):=by
  intro c C p;by_cases hlt:c<S.length
  ·left
   refine⟨hlt,?_⟩;rw[List.getElem?_append_left (by simpa using hlt),List.getElem?_set]at p;by_cases hcb:b=c
   ·subst hcb;rw[if_pos rfl,if_pos hlt]at p;exact .inl (by simpa using p.symm)
   ·rw[if_neg hcb]at p;exact .inr ⟨fun e=>hcb e.symm,p⟩
  ·right
   have:c<(S.set b .dead++[B2]).length:=(List.getElem?_eq_some_iff.1 p).1;simp at this;obtain rfl:c=S.length:=oM;rw[List.getElem?_append_right (by simp)]at p;simp at p;exact⟨rfl,p.symm⟩
 have loc:∀(c:Nat) lc,c<S.length→(φ++[l2])[c]?=some lc→φ[c]?=some lc:=fun c lc hc p=>by rwa [List.getElem?_append_left (by rw[h.len];exact hc)]at p
 have locn:∀lc,(φ++[l2])[S.length]?=some lc→lc=l2:=fun lc p=>by rw[←h.len]at p;simp at p;exact p.symm
 have stay:∀(c:Nat) C lc,c≠b→S[c]?=some C→C≠ .dead→φ[c]?=some lc→w'.heap[lc.blk]?=w.heap[lc.blk]?:=by
  intro c C lc hcb p hd q;by_cases hmC:C.mine=true
  ·exact hw.2 _ ((h.blk c C lc p q).lt hmC).2 (by simp only[ne_eq,Option.some.injEq];exact h.sep b c B C l lc (fun e=>hcb e.symm) hb p hm hmC hl q)
  ·cases C with
   |dead=>exact absurd rfl hd
   |cells cc own sz=>
    have:own=false:=by simpa [Blk.mine] using hmC
    subst this;have:=(h.blk c _ lc p q).below;exact hw.2 _ (h.size _ this) (by simp only[ne_eq,Option.some.injEq];exact fun q=>((h.blk b B l hb hl).lt hm).1 (q▸this))
   |map es=>exact absurd rfl hmC
   |iter s p=>exact absurd rfl hmC
 refine⟨by simp [h.len],hbel,fun k hk=>Nat.lt_of_lt_of_le (h.size k hk) hw.1,fun c C lc p q=>?_,fun c c' C C' lc lc' hne p p' m m' q q'=>?_⟩
 ·rcases old c C p with⟨hlt,rfl|⟨hcb,hS⟩⟩|⟨rfl,rfl⟩
  ·trivial
  ·have q:=loc c lc hlt q;by_cases hd:C= .dead
   ·subst hd;trivial
   ·exact(h.blk c C lc hS q).mono hx (stay c C lc hcb hS hd q)
  ·rw[locn lc q];exact hB
 ·rcases old c C p with⟨hlt,rfl|⟨hcb,hS⟩⟩|⟨rfl,rfl⟩
  ·cases m
  ·rcases old c' C' p' with⟨hlt',rfl|⟨hcb',hS'⟩⟩|⟨rfl,rfl⟩
   ·cases m'
   ·exact h.sep c c' C C' lc lc' hne hS hS' m m' (loc c lc hlt q) (loc c' lc' hlt' q')
   ·rw[locn lc' q',he];exact h.sep c b C B lc l hcb hS hb m hm (loc c lc hlt q) hl
  ·rcases old c' C' p' with⟨hlt',rfl|⟨hcb',hS'⟩⟩|⟨rfl,rfl⟩
   ·cases m'
   ·rw[locn lc q,he];exact fun e=>h.sep c' b C' B lc' l hcb' hS' hb m' hm (loc c' lc' hlt' q') hl e.symm
   ·exact absurd rfl hne
theorem eI{H:d9}{size n c:Nat}{a:Option Addr}{l:LV}(h:A3 H size (.slice a n c)=some l):l.length=n*size:=by
 unfold A3 at h;split at h
 ·rename_i e;cases e;cases h;simp
 ·rename_i e;cases e;split at h
  ·rename_i h0;cases h;subst h0;simp
  ·split at h
   ·split at h
    ·cases h;simp;omega
    ·cases h
   ·cases h
 ·cases h
theorem eJ{H:d9}(hW:WR base w0 φ H.bs w){size n c:Nat}{a:Option Addr}{l:LV}(h:A3 H size (.slice a n c)=some l):∀x∈l,x.oneCell'=true:=by
 unfold A3 at h;split at h
 ·cases h;intro x hx;cases hx
 ·split at h
  ·cases h;intro x hx;cases hx
  ·split at h
   ·rename_i cs own sz hg;split at h
    ·cases h;obtain⟨l,hl,hbr⟩:=hW.loc hg;exact fun x hx=>hbr.2.1 x (List.mem_of_mem_drop (List.mem_of_mem_take hx))
    ·cases h
   ·cases h
 ·cases h
theorem vZ{H:d9}(hW:WR base w0 φ H.bs w){xt:Option TypeId}{size n:Nat}{x:Value}{xs:LV}(h:Z4 P H size xt x=some (n,xs)):(∀x∈xs,x.oneCell'=true)∧xs.length=n*size:=by
 unfold Z4 at h;split at h
 ·simp only[Option.map_eq_some_iff,Prod.mk.injEq]at h;obtain⟨l,hl,rfl,rfl⟩:=h;exact⟨eJ hW hl,eI hl⟩
 ·split at h
  ·rename_i hs;simp only[Option.some.injEq,Prod.mk.injEq]at h;obtain⟨rfl,rfl⟩:=h;subst hs;exact⟨fun x hx=>by obtain⟨b,_,rfl⟩:=List.mem_map.1 hx;rfl,by simp⟩
  ·cases h
 ·cases h
theorem pV{H:d9}{ts:List TypeId}{s x s' x' v:Value}(hW:WR base w0 φ H.bs w)(h:C3 P H ts s x=some (v,none))(hs:VR φ s s')(hx:VR φ x x')(ty:TypeId):
  fW P base w0 φ H.bs w (Builtin.append_ ts.toArray ty #[s',x']) v:=by
 unfold C3 at h;split at h
 ·cases h
 rename_i e he;split at h
 rotate_left
 ·cases h
 rename_i size by' z hsz hby hz;split at h
 ·cases h
 rename_i hnz;split at h
 ·cases h
 rename_i n xs hadd;obtain⟨xs',hv,hl,hrun⟩:=mR hW he hsz hby hz (fun h=>hnz (.inr h)) hadd hx;have fin:∀a m c,n=0→m≤c→s'= .slice a m c→VR φ v (.slice a m c)→fW P base w0 φ H.bs w (Builtin.append_ ts.toArray ty #[s',x']) v:=by
  intro a m c h0 hmc hs' hvv;subst h0 hs';have hx0:xs'=[]:=List.length_eq_zero_iff.1 (by simpa using hl);subst hx0;refine⟨_,hvv,fun w' hc=>?_⟩;rw[(hrun w' hc a m c ty (.inr rfl) (fun _=>hmc)).1 oM];cases a<;>simp [storeCells]
 split at h
 ·split at h
  ·rename_i h0;cases h;cases hs;exact fin none 0 0 h0 lR rfl .nilslice
  ·split at h<;>simp at h
 ·rename_i b o len c;split at h
  ·rename_i h0;cases h;have hs2:=hs;cases hs with
   |slice0=>exact fin _ _ _ h0 lR rfl hs2
   |exact hl'=>exact fin _ _ _ h0 lR rfl hs2
   |slice hl' hn hc=>exact fin _ _ _ h0 hn rfl hs2
  ·split at h
   ·split at h
    ·split at h
     ·split at h
      ·simp at h
      ·split at h<;>simp at h
     ·cases h
    ·cases h
   ·cases h
 ·cases h
theorem xZ{H:d9}(hW:WR base w0 φ H.bs w){b o len c size:Nat}{cs:LV}{own:Bool}{sz:Nat}{x':Value}(hg:H.get b=some (.cells cs own sz))(hle:o+len*size≤cs.length)
  (hx:VR φ (.slice (some ⟨b,o,none⟩) len c) x'):∃a' c' old,x'= .slice a' len c'∧VRs φ ((cs.drop o).take (len*size)) old∧∀w2,Cls base w0 φ H.bs w w2→(Builtin.firstCells size len x').run P w2= .ok old.toArray w2:=by
 have:A3 H size (.slice (some ⟨b,o,none⟩) len c)=some ((cs.drop o).take (len*size)):=by
  simp only[A3];by_cases h0:len=0
  ·subst h0;simp
  ·rw[if_neg h0,hg];simp only;rw[if_pos hle]
 obtain⟨a',c',old,e,h1,h2,h3⟩:=T5 hW this hx;exact⟨a',c',old,e,h2,fun w2 hc=>by rw[h3 w2 hc _ lR,List.take_of_length_le oM]⟩
theorem pX{H H':d9}{ts:List TypeId}{s x s' x' v:Value}(hW:WR base w0 φ H.bs w)(h:C3 P H ts s x=some (v,some H'))(hs:VR φ s s')(hx:VR φ x x')(ty:TypeId):
  ay P base w0 φ H.bs H'.low H'.bs w (Builtin.append_ ts.toArray ty #[s',x']) v:=by
 unfold C3 at h;split at h
 ·cases h
 rename_i e he;split at h
 rotate_left
 ·cases h
 rename_i size by' z hsz hby hz;split at h
 ·cases h
 rename_i hnz;split at h
 ·cases h
 rename_i n xs hadd;obtain⟨xs',hv,hl,hrun⟩:=mR hW he hsz hby hz (fun h=>hnz (.inr h)) hadd hx;obtain⟨hone,hxl⟩:=vZ hW hadd;split at h
 ·
  split at h
  ·simp at h
  rename_i hn0;split at h
  rotate_left
  ·simp at h
  rename_i hbd;simp only[Option.some.injEq,Prod.mk.injEq]at h;obtain⟨rfl,rfl⟩:=h;cases hs;obtain⟨k,rest,hrl,hr⟩:=(hrun w hW.cls none 0 0 ty (.inl (by simpa using hbd)) (fun h=>absurd h hn0)).2 oM [] (fun w2 _=>by simp [Builtin.firstCells]);refine aZ hW (w1:=w.drew) (xs:=xs') (rest:=rest) (e:=e) rfl rfl rfl rfl hv hone (v':= .slice (some ⟨w.heap.size,0,none⟩) n (n+k)) (by simpa using hr) ?_;refine VR.slice (l:=⟨w.heap.size,0,_,_⟩) (o:=0) (O8 hW) oM ?_;simp only[Nat.zero_add,hl,hrl,←Nat.add_mul];exact lR
 ·rename_i b o len c;split at h
  ·simp at h
  rename_i hn0;split at h
  rotate_left
  ·cases h
  rename_i hbd;split at h
  rotate_left
  ·cases h
  rename_i cs own sz hg;split at h
  rotate_left
  ·cases h
  rename_i hcond;obtain⟨hle,rfl⟩:=hcond;have hs2:=hs;obtain⟨a',c',old,rfl,hold,hfirst⟩:=xZ (P:=P) hW hg hle hs2;have hcone:∀x∈(cs.drop o).take (len*sz)++xs,x.oneCell'=true:=by
   intro x hx;obtain⟨l,hl',hbr⟩:=hW.loc hg;rcases List.mem_append.1 hx with hx|hx
   ·exact hbr.2.1 x (List.mem_of_mem_drop (List.mem_of_mem_take hx))
   ·exact hone x hx
  have hol:old.length=len*sz:=by rw[←hold.1];simp;omega
  have grow:∀(low:Nat)(S':List Blk),WR base w0 φ S' w→¬len+n≤c'→S'.length=H.bs.length→(∀low,∀w',(∀(k:Nat)(o:Obj),w.heap[k]?=some o→w'.heap[k]?=some o)→Fr φ H.bs low w w')→
    ay P base w0 φ H.bs low (S'++[.cells ((cs.drop o).take (len*sz)++xs) true sz]) w (Builtin.append_ ts.toArray ty #[.slice a' len c',x']) (.slice (some ⟨H.next,0,none⟩) (len+n) (len+n+1)):=by
   intro low S' hW' hnf hlen hfr;obtain⟨k,rest,hrl,hr⟩:=(hrun w hW.cls a' len c' ty (.inl hbd) (fun h=>absurd h hn0)).2 hnf old hfirst;obtain⟨h1,h2⟩:=hW'.alloc (w1:=w.drew) (c:=(cs.drop o).take (len*sz)++xs) (xs:=old++xs') (rest:=rest) (e:=e) (sz:=sz) rfl rfl rfl rfl (hold.append hv) hcone;refine⟨_,_,_,hr,Ext.snoc _ _,?_,h1,hfr low _ h2⟩;refine VR.slice (l:=⟨w.heap.size,0,(old++xs').length+rest.length,sz⟩) (o:=0) ?_ oM ?_
   ·have:=O8 hW' (l:=⟨w.heap.size,0,(old++xs').length+rest.length,sz⟩);rw[hlen]at this;exact this
   ·simp only[Nat.zero_add,List.length_append,hol,hl,hrl,←Nat.add_mul];exact lR
  split at h
  ·rename_i hcl;subst hcl;simp only[Option.some.injEq,Prod.mk.injEq]at h;obtain⟨rfl,rfl⟩:=h;refine grow _ H.bs hW ?_ rfl (fun low w' hk=>Fr.of_old hW hk);cases hs2 with
   |slice0=>omega
   |exact=>omega
  ·rename_i hcl;split at h
   rotate_left
   ·cases h
   rename_i hown;subst hown;simp only[Option.some.injEq,Prod.mk.injEq]at h;obtain⟨rfl,rfl⟩:=h;by_cases hfit:len+n≤c'
   ·
    cases hs2 with
    |slice0=>omega
    |exact=>exact absurd rfl hcl
    |slice hlb hn hc=>
     rename_i l;obtain⟨l',hl',hbr⟩:=hW.loc hg;rw[hlb]at hl';cases hl';obtain⟨h0,hcone0,h1,h2,h3⟩:=hbr;obtain⟨hb,hcap,cs2,tt,fz,hh,hsz2,hfz⟩:=h3 rfl;rw[h0]at hc;have hroom:o+len*sz+n*sz≤l.cap:=by
      have:(len+n)*sz≤c'*sz:=Nat.mul_le_mul_right _ hfit;rw[Nat.add_mul]at this;omega
     have hone':∀v∈xs',v.oneCell'=true:=by
      intro v hvm;obtain⟨i,hi⟩:=List.getElem?_of_mem hvm;have hi':i<xs.length:=by rw[hv.1];exact(List.getElem?_eq_some_iff.1 hi).1
      have:=hv.2 i xs[i] v (by simp [hi']) hi;have ho:=hone xs[i] (by simp);rw[this.oneCell ho];exact ho
     have hst:=Y9 (P:=P) l.blk (l.off+o+len*sz) tt fz xs' 0 cs2 w hh oM (fun p hp=>hfz p oM) hone';have hlt:=(Array.getElem?_eq_some_iff.1 hh).1;refine⟨.slice (some ⟨l.blk,l.off+o,none⟩) (len+n) c',E3 w l.blk (.cells (splice cs2.toList (l.off+o+len*sz+0) xs').toArray tt fz),φ++[⟨l.blk,l.off+o,l.cap-o,sz⟩],?_,Ext.snoc _ _,?_,?_,?_⟩
     ·rw[(hrun w hW.cls _ len c' ty (.inl hbd) (fun h=>absurd h hn0)).1 hfit];simp only[Addr.add_none,hst,Result.andThen_ok]
     ·refine VR.slice (l:=⟨l.blk,l.off+o,l.cap-o,sz⟩) (o:=0) ?_ hfit ?_
      ·have:=O8 hW (l:=⟨l.blk,l.off+o,l.cap-o,sz⟩)
       simpa [d9.next,d9.put] using this
      ·simp only[Nat.zero_add];omega
     ·refine hW.move hg hlb rfl (aj w l.blk _) (P8 hW.below hb) (l2:=⟨l.blk,l.off+o,l.cap-o,sz⟩) rfl ?_;have hxx:=Ext.snoc φ ⟨l.blk,l.off+o,l.cap-o,sz⟩;have cellv:∀j,(E3 w l.blk (.cells (splice cs2.toList (l.off+o+len*sz+0) xs').toArray tt fz)).cell? ⟨l.blk,j,none⟩=(splice cs2.toList (l.off+o+len*sz) xs')[j]?:=by
       intro j;unfold World.cell?;simp [F1 w _ _ hlt]
      have hbig:l.off+o+len*sz+xs'.length≤cs2.toList.length:=by
       have:cs2.toList.length=cs2.size:=by simp
       omega
      refine⟨rfl,hcone,fun i y hy=>?_,(by intro hf;cases hf),fun _=>⟨hb,?_,_,tt,fz,F1 w _ _ hlt,?_,fun i hi=>?_⟩⟩
      ·rw[cellv,V6 _ _ _ _ hbig];have hdl:((cs.drop o).take (len*sz)).length=len*sz:=by simp;omega
       by_cases hi:i<len*sz
       ·rw[List.getElem?_append_left (by rw[hdl];exact hi),List.getElem?_take,if_pos hi,List.getElem?_drop]at hy;obtain⟨z,hz',hvz⟩:=h1 _ y hy;refine⟨z,?_,hvz.mono hxx⟩;rw[if_neg (by show¬(l.off+o+len*sz≤l.off+o+i∧_);omega)];unfold World.cell? at hz';simp only[hh,Option.isSome_none,Bool.false_eq_true,if_false]at hz';show cs2.toList[l.off+o+i]?=some z;rw[Array.getElem?_toList,Nat.add_assoc];exact hz'
       ·rw[List.getElem?_append_right (by rw[hdl];omega),hdl]at hy;obtain⟨z,hz',hvz⟩:=hv.get hy;refine⟨z,?_,hvz.mono hxx⟩;have hzl:i-len*sz<xs'.length:=(List.getElem?_eq_some_iff.1 hz').1;rw[if_pos (by show l.off+o+len*sz≤l.off+o+i∧l.off+o+i<l.off+o+len*sz+xs'.length;omega)];show xs'[l.off+o+i-(l.off+o+len*sz)]?=some z;rw[show l.off+o+i-(l.off+o+len*sz)=i-len*sz from oM];exact hz'
      ·show((cs.drop o).take (len*sz)++xs).length≤l.cap-o;simp only[List.length_append,List.length_take,List.length_drop,hxl];omega
      ·show l.off+o+(l.cap-o)≤_;simp [D9];omega
      ·have:=hfz i (by have:i<l.off+o+(l.cap-o):=hi;omega);unfold World.frozen? at this ⊢;simp only[hh]at this;simp only[F1 w _ _ hlt];exact this
     ·exact Fr.of_put hW hg hlb rfl (Nat.min_le_right _ _)
   ·exact grow _ (H.bs.set b .dead) (hW.kill b) hfit (by simp) (fun low w' hk=>Fr.of_old hW hk)
 ·cases h
theorem qo{H:d9}(hW:WR base w0 φ H.bs w){ts:List TypeId}{e size:Nat}(he:ts.head?.bind (I2 P)=some e)(hs:z9 P e=some size){sa:Option Addr}{sn sc dn:Nat}{s':Value}{ys:LV}
  (hx:A3 H size (.slice sa sn sc)=some ys) (hv:VR φ (.slice sa sn sc) s'):
  ∃xs',VRs φ (ys.take (min sn dn*size)) xs'∧∀w',Cls base w0 φ H.bs w w'→∀da dc ty,(Builtin.copy_ ts.toArray ty #[.slice da dn dc,s']).run P w'=
   ((match da with|some a=>(storeCells a xs').run P w'|none=> .ok () w').andThen fun _ w2=> .ok (goInt (min sn dn:Nat)) w2):=by
 obtain⟨t,ts,rfl⟩:∃t r,ts=t::r:=by cases ts with
  |nil=>simp at he
  |cons t r=>exact⟨t,r,rfl⟩
 have hu:=V7 (by simpa using he);obtain⟨a',c',l',rfl,h1,h2,h3⟩:=T5 (P:=P) hW hx hv;refine⟨l'.take (min sn dn*size),h2.take _,fun w' hc da dc ty=>?_⟩;have g0:(t::ts).toArray[0]?=some t:=by simp
 have hf:=h3 w' hc (min sn dn) (Nat.min_le_left _ _);have hmin:Nat.min sn dn=min sn dn:=rfl;simp only[Builtin.copy_];simp only[g0,List.getElem?_toArray,List.getElem?_cons_zero,List.getElem?_cons_succ,Sem.run_bind,run_underlying hu,Result.andThen_ok,B9 hs,Builtin.lenOf,Sem.run_pure,hmin,hf];cases da with
 |none=>simp only[Sem.run_pure,Result.andThen_ok]
 |some a=>simp only[Sem.run_bind,Sem.run_pure]
theorem wW{H:d9}{ts:List TypeId}{d s d' s' v:Value}(hW:WR base w0 φ H.bs w)(h:je P H ts d s=some (v,none))(hd:VR φ d d')(hs:VR φ s s')(ty:TypeId):
  fW P base w0 φ H.bs w (Builtin.copy_ ts.toArray ty #[d',s']) v:=by
 unfold je at h;split at h
 ·cases h
 rename_i e he;split at h
 rotate_left
 ·cases h
 rename_i size da dn dc hsz;split at h
 ·cases h
 split at h
 rotate_left
 ·cases h
 rename_i sa sn sc;split at h
 rotate_left
 ·cases h
 rename_i ys hys;split at h
 ·rename_i h0;cases h;obtain⟨xs',hv,hrun⟩:=qo (P:=P) hW he hsz (dn:=dn) hys hs;have hx0:xs'=[]:=by have:=hv.1;rw[h0]at this;simp at this;exact List.length_eq_zero_iff.1 this.symm
  subst hx0;have hd':∃a c,d'= .slice a dn c:=by cases hd<;>exact⟨_,_,rfl⟩
  obtain⟨a,c,rfl⟩:=hd';refine⟨goInt 0,VR.na (by rfl),fun w' hc=>?_⟩;rw[hrun w' hc a c ty,h0];cases a<;>simp [storeCells]
 ·split at h
  ·split at h
   ·split at h<;>simp at h
   ·cases h
  ·cases h
theorem wX{H H':d9}{ts:List TypeId}{d s d' s' v:Value}(hW:WR base w0 φ H.bs w)(h:je P H ts d s=some (v,some H'))(hd:VR φ d d')(hs:VR φ s s')(ty:TypeId):
  ay P base w0 φ H.bs H'.low H'.bs w (Builtin.copy_ ts.toArray ty #[d',s']) v:=by
 unfold je at h;split at h
 ·cases h
 rename_i e he;split at h
 rotate_left
 ·cases h
 rename_i size da dn dc hsz;split at h
 ·cases h
 split at h
 rotate_left
 ·cases h
 rename_i sa sn sc;split at h
 rotate_left
 ·cases h
 rename_i ys hys;split at h
 ·simp at h
 rename_i h0;split at h
 rotate_left
 ·cases h
 rename_i b o;split at h
 rotate_left
 ·cases h
 rename_i cs sz hg;split at h
 rotate_left
 ·cases h
 rename_i hle;simp only[Option.some.injEq,Prod.mk.injEq]at h;obtain⟨rfl,rfl⟩:=h;obtain⟨xs',hv,hrun⟩:=qo (P:=P) hW he hsz (dn:=dn) hys hs;have hxl:(ys.take (min sn dn*size)).length=min sn dn*size:=by
  have:=eI hys;rw[List.length_take,this];exact Nat.min_eq_left (Nat.mul_le_mul_right _ (Nat.min_le_left _ _))
 have hd':∃l c,φ[b]?=some l∧d'= .slice (some ⟨l.blk,l.off+o,none⟩) dn c:=by
  cases hd with
  |slice0=>exfalso;omega
  |exact h=>exact⟨_,_,h,rfl⟩
  |slice h=>exact⟨_,_,h,rfl⟩
 obtain⟨l,c,hl,rfl⟩:=hd';obtain⟨l',hl',hbr⟩:=hW.loc hg;rw[hl]at hl';cases hl';obtain⟨g0,hcone,h1,h2,h3⟩:=hbr;obtain⟨hb,hcap,cs2,tt,fz,hh,hsz2,hfz⟩:=h3 rfl;have hyone:=eJ hW hys;have hone':∀v∈xs',v.oneCell'=true:=by
  intro v hvm;obtain⟨i,hi⟩:=List.getElem?_of_mem hvm;obtain⟨x,hx⟩:∃x,(ys.take (min sn dn*size))[i]?=some x:=by
   have hi':i<(ys.take (min sn dn*size)).length:=by rw[hv.1];exact(List.getElem?_eq_some_iff.1 hi).1
   exact⟨_,List.getElem?_eq_getElem hi'⟩
  have ho:=hyone x (List.mem_of_mem_take (List.mem_of_getElem? hx));rw[(hv.2 i x v hx hi).oneCell ho];exact ho
 have hxl':xs'.length=min sn dn*size:=by rw[←hv.1];exact hxl
 have hst:=Y9 (P:=P) l.blk (l.off+o) tt fz xs' 0 cs2 w hh oM (fun p hp=>hfz p oM) hone';have hlt:=(Array.getElem?_eq_some_iff.1 hh).1;refine⟨goInt (min sn dn:Nat),E3 w l.blk (.cells (splice cs2.toList (l.off+o+0) xs').toArray tt fz),φ,?_,Ext.refl φ,VR.na (by rfl),hW.put (l:=l) hg hl rfl (aj w l.blk _) (P8 hW.below hb) ?_,Fr.of_put hW hg hl rfl (Nat.min_le_right _ _)⟩
 ·rw[hrun w hW.cls _ c ty];simp only[hst,Result.andThen_ok]
 ·refine⟨g0,fun v hv'=>(di _ _ _ v hv').elim (hcone v) (fun h=>hyone v (List.mem_of_mem_take h)),fun i y hy=>?_,(by intro hf;cases hf),fun _=>⟨hb,by rw[D9];exact hcap,_,tt,fz,F1 w _ _ hlt,by simp [D9];exact hsz2,fun i hi=>?_⟩⟩
  ·rw[V6 _ _ _ _ (by rw[hxl];exact hle)]at hy;have cellv:∀j,(E3 w l.blk (.cells (splice cs2.toList (l.off+o+0) xs').toArray tt fz)).cell? ⟨l.blk,j,none⟩=(splice cs2.toList (l.off+o) xs')[j]?:=by
    intro j;unfold World.cell?;simp [F1 w _ _ hlt]
   rw[cellv,V6 _ _ _ _ (by have:cs2.toList.length=cs2.size:=(by simp);omega)];rw[hxl]at hy;split at hy
   ·rename_i hin;obtain⟨z,hz,hvz⟩:=hv.get hy;refine⟨z,?_,hvz⟩;rw[if_pos oM,show l.off+i-(l.off+o)=i-o from oM];exact hz
   ·rename_i hin;obtain⟨z,hz,hvz⟩:=h1 i y hy;refine⟨z,?_,hvz⟩;rw[if_neg oM];unfold World.cell? at hz
    simpa [hh] using hz
  ·have:=hfz i hi;unfold World.frozen? at this ⊢;simp only[hh]at this;simp only[F1 w _ _ hlt];exact this
theorem wT{H:d9}{src dst:TypeId}{x x' v:Value}(hW:WR base w0 φ H.bs w)(h:W8 P H src dst x=some (v,none))(hx:VR φ x x'):fW P base w0 φ H.bs w (convert src dst x') v:=by
 unfold W8 at h;split at h
 ·rename_i d k k0 n hs hd;cases h;cases hx;refine⟨_,.int _ _,fun w' _=>?_⟩;simp only[convert,Sem.run_bind,run_underlying hs,run_underlying hd,Result.andThen_ok];cases d<;>simp [Conv.intToInt]
 ·rename_i d s hs hd;cases h;cases hx;refine⟨_,.string _,fun w' _=>?_⟩;simp only[convert,Sem.run_bind,run_underlying hs,run_underlying hd,Result.andThen_ok];cases d<;>simp
 ·rename_i e a n c hs hd;split at h
  rotate_left
  ·cases h
  rename_i he;split at h
  rotate_left
  ·cases h
  rename_i l hl;cases h;simp only[Option.bind_eq_some_iff]at hl;obtain⟨cs,hcs,hm⟩:=hl;obtain⟨a',c',l',rfl,h1,h2,h3⟩:=T5 (P:=P) hW hcs hx;have:=rh hm h2;subst this;refine⟨_,.string _,fun w' hc=>?_⟩;have hf:=h3 w' hc n lR;rw[List.take_of_length_le oM]at hf;simp only[convert,Sem.run_bind,run_underlying hs,run_underlying hd,Result.andThen_ok,run_underlying he,Conv.bytesToString];cases a' with
  |none=>
   simp only[Builtin.firstCells,Sem.run_pure,Result.ok.injEq,and_true]at hf;have hl0:l'=[]:=by have:=congrArg Array.toList hf;simpa using this.symm
   subst hl0;simp at hm;subst hm;simp only[Sem.run_pure];rfl
  |some a'=>
   simp only[Builtin.firstCells,Nat.mul_one]at hf;simp only[Sem.run_bind,hf,Result.andThen_ok];rw[←Array.forIn_toList];have:=sL (P:=P) l' ByteArray.empty l w' hm;simp only[List.toList_toArray]at this ⊢;refine(congrArg (fun r=>Result.andThen r _) this).trans ?_;simp only[Result.andThen_ok,Sem.run_pure];have he0:ByteArray.empty.data= #[]:=rfl;rw[he0,Array.empty_append]
 ·rename_i d e s hs hd;split at h
  ·cases h
  ·cases h
  ·cases h
 ·cases h
theorem qI(w:World)(g n:Nat)(cs:Array Value)(t:TypeId)(hg:w.heap[g]?=some (.cells cs t (0,0))):(w.freeze ⟨g,n,none⟩ 1)=E3 w g (.cells cs t (n,n+1)):=by
 unfold World.freeze E3;simp only[Nat.one_ne_zero,if_false]
 congr 1
 apply Array.ext_getElem?;intro i;rw[Array.getElem?_modify,Array.getElem?_setIfInBounds];by_cases hi:g=i
 ·subst hi;have hlt:=(Array.getElem?_eq_some_iff.1 hg).1;simp only[if_true,hg,Option.map_some,hlt,beq_self_eq_true]
 ·simp [hi]
theorem lY{H:d9}(hW:WR base w0 φ H.bs w)(e:TypeId)(s:ByteArray)(low:Nat):
  ay P base w0 φ H.bs low (H.push (.cells (s.data.toList.map P9) true 1)).bs w (Conv.stringToBytes e s) (.slice (some ⟨H.next,0,none⟩) s.size (s.size+1)):=by
 have hch:(choose (Question.appendCap s.size 0 e)).run P w= .ok (s.size+w.tape w.drawn (.appendCap s.size 0 e) % (2 ^ 63-s.size)) w.drew:=by
  rw[run_choose,if_neg (by simp [Question.forced])];rfl
 generalize hk:w.tape w.drawn (.appendCap s.size 0 e) % (2 ^ 63-s.size)=k at hch;have hlen:(s.data.toList.map P9).length=s.size:=by simp
 have hv:VRs φ (s.data.toList.map P9) (s.data.toList.map P9):=VRs.map _ _ _ (fun b _=> .int _ _);have hone:∀x∈s.data.toList.map P9,x.oneCell'=true:=fun x hx=>by obtain⟨b,_,rfl⟩:=List.mem_map.1 hx;rfl
 have hold:∀j,j<w.heap.size→(w.drew.alloc (.cells (s.data.toList.map P9++List.replicate k (Value.int .u8 0)).toArray e)).heap[j]?=w.heap[j]?:=fun j hj=>Below.heap_alloc _ _ _ hj;have hnew:(w.drew.alloc (.cells (s.data.toList.map P9++List.replicate k (Value.int .u8 0)).toArray e)).heap[w.heap.size]?=some (.cells (s.data.toList.map P9++List.replicate k (Value.int .u8 0)).toArray e (0,0)):=heap_alloc_new w.drew _;have hrun:(Conv.stringToBytes e s).run P w= .ok (.slice (some ⟨w.heap.size,0,none⟩) s.size (s.size+k))
   (E3 (w.drew.alloc (.cells (s.data.toList.map P9++List.replicate k (Value.int .u8 0)).toArray e)) w.heap.size (.cells (s.data.toList.map P9++List.replicate k (Value.int .u8 0)).toArray e (s.size+k,s.size+k+1))):=by
  have harr:Array.map (fun b=>Value.int IntKind.u8 ↑b.toNat) s.data++Array.replicate (s.size+k-s.size) (Value.int IntKind.u8 0)=(s.data.toList.map P9++List.replicate k (Value.int .u8 0)).toArray:=by
   apply Array.toList_inj.1;simp only[Array.toList_append,Array.toList_map,Array.toList_replicate];rw[show s.size+k-s.size=k from oM];rfl
  have hsh:(w.drew.alloc (.cells (s.data.toList.map P9++List.replicate k (Value.int .u8 0)).toArray e)).shape? w.heap.size=some (e,s.size+k):=by
   unfold World.shape?;rw[hnew];simp
  simp only[Conv.stringToBytes,Sem.run_bind,hch,Result.andThen_ok,newRow,newObj,Sem.run,Sem.run_pure,markStringish,run_shape,harr];have e1:w.drew.heap.size=w.heap.size:=rfl;simp only[e1,World.alloc_eq,hsh,run_freeze,qI _ _ _ _ _ hnew,Result.andThen_ok]
 have hbut:But w (E3 (w.drew.alloc (.cells (s.data.toList.map P9++List.replicate k (Value.int .u8 0)).toArray e)) w.heap.size (.cells (s.data.toList.map P9++List.replicate k (Value.int .u8 0)).toArray e (s.size+k,s.size+k+1))) none:=
  ⟨by simp [E3],fun j hj _=>by rw[Y6 _ _ _ _ oM];exact hold j hj⟩
 refine⟨_,_,φ++[⟨w.heap.size,0,s.size+k,1⟩],hrun,Ext.snoc _ _,?_,hW.push hbut ?_ (fun _=>lR) ?_,Fr.of_old hW fun j o hj=>?_⟩
 ·refine VR.slice (l:=⟨w.heap.size,0,s.size+k,1⟩) (o:=0) (O8 hW) oM (by simp)
 ·exact P8 ((hW.below.drew).alloc hW.size _) (cG hW.size)
 ·have hget:=F1 (w.drew.alloc (.cells (s.data.toList.map P9++List.replicate k (Value.int .u8 0)).toArray e)) w.heap.size (.cells (s.data.toList.map P9++List.replicate k (Value.int .u8 0)).toArray e (s.size+k,s.size+k+1)) (by simp);refine⟨rfl,hone,fun i x hi=>?_,(by intro hf;cases hf),fun _=>⟨cG hW.size,by rw[hlen];show s.size≤s.size+k;omega,_,e,_,hget,by simp,fun i hi=>?_⟩⟩
  ·obtain⟨y,hy,hvy⟩:=hv.get hi;refine⟨y,?_,hvy.mono (Ext.snoc _ _)⟩;unfold World.cell?;simp only[hget,Option.isSome_none,Bool.false_eq_true,if_false,Nat.zero_add];have hlt:i<(s.data.toList.map P9).length:=(List.getElem?_eq_some_iff.1 hy).1;rw[List.getElem?_toArray,List.getElem?_append_left hlt];exact hy
  ·unfold World.frozen?;simp only[hget];have:i<0+(s.size+k):=hi;simp only[Bool.and_eq_false_iff,decide_eq_false_iff_not]
   left;omega
 ·have hjl:=(Array.getElem?_eq_some_iff.1 hj).1;rw[Y6 _ _ _ _ oM,hold j hjl];exact hj
theorem mI(s:ByteArray):∀(b i:Nat)(acc:Array Value),(∀x∈acc,∃n,x= .int .i32 n)→∀x∈Conv.runesFrom s b i acc,∃n,x= .int .i32 n:=by
 intro b;induction b with
 |zero=>intro i acc h;exact h
 |succ b ih=>
  intro i acc h;unfold Conv.runesFrom;split
  ·refine ih _ _ fun x hx=>?_;rcases Array.mem_push.1 hx with hx|rfl
   ·exact h x hx
   ·exact⟨_,rfl⟩
  ·exact h
theorem lZ{H:d9}(hW:WR base w0 φ H.bs w)(e:TypeId)(s:ByteArray)(low:Nat):
  ay P base w0 φ H.bs low (H.push (.cells (Conv.runesFrom s s.size 0 #[]).toList true 1)).bs w (Conv.stringToRunes e s) (.slice (some ⟨H.next,0,none⟩) (Conv.runesFrom s s.size 0 #[]).size ((Conv.runesFrom s s.size 0 #[]).size+1)):=by
 have hall:=mI s s.size 0 #[] (fun x hx=>by simp at hx);unfold Conv.stringToRunes;generalize Conv.runesFrom s s.size 0 #[]=R at hall ⊢;have hch:(choose (Question.appendCap R.size 0 e)).run P w= .ok (R.size+w.tape w.drawn (.appendCap R.size 0 e) % (2 ^ 63-R.size)) w.drew:=by
  rw[run_choose,if_neg (by simp [Question.forced])];rfl
 generalize hk:w.tape w.drawn (.appendCap R.size 0 e) % (2 ^ 63-R.size)=k at hch;have hv:VRs φ R.toList R.toList:=⟨rfl,fun i x y p q=>by
  rw[p]at q;cases q;obtain⟨n,rfl⟩:=hall x (by simpa using List.mem_of_getElem? p);exact .int _ _⟩
 refine aZ hW (w1:=w.drew) (xs:=R.toList) (rest:=List.replicate k (Value.int .i32 0)) (e:=e) rfl rfl rfl rfl hv (fun x hx=>by obtain⟨n,rfl⟩:=hall x (by simpa using hx);rfl) (v':= .slice (some ⟨w.heap.size,0,none⟩) R.size (R.size+k)) ?_ ?_
 ·have harr:R++Array.replicate (R.size+k-R.size) (Value.int IntKind.i32 0)=(R.toList++List.replicate k (Value.int .i32 0)).toArray:=by
   apply Array.toList_inj.1;simp
  simp only[Sem.run_bind,hch,Result.andThen_ok,newRow,newObj,Sem.run,Sem.run_pure,harr];rfl
 ·exact VR.slice (l:=⟨w.heap.size,0,_,1⟩) (o:=0) (O8 hW) oM (by simp)
theorem wV{H H':d9}{src dst:TypeId}{x x' v:Value}(hW:WR base w0 φ H.bs w)(h:W8 P H src dst x=some (v,some H'))(hx:VR φ x x'):ay P base w0 φ H.bs H'.low H'.bs w (convert src dst x') v:=by
 unfold W8 at h;split at h
 ·cases h
 ·cases h
 ·split at h
  ·split at h<;>cases h
  ·cases h
 ·rename_i d e s hs hd;cases hx;have step8:P.underlying e=some (.int .u8)→(convert src dst (.string s)).run P w=(Conv.stringToBytes e s).run P w:=by
   intro he;simp only[convert,Sem.run_bind,run_underlying hs,run_underlying hd,Result.andThen_ok];cases d<;>simp only[Sem.run_bind,run_underlying he,Result.andThen_ok]
  have step32:P.underlying e=some (.int .i32)→(convert src dst (.string s)).run P w=(Conv.stringToRunes e s).run P w:=by
   intro he;simp only[convert,Sem.run_bind,run_underlying hs,run_underlying hd,Result.andThen_ok];cases d<;>simp only[Sem.run_bind,run_underlying he,Result.andThen_ok]
  have lift:∀{q:Sem Value}{S':List Blk}{v},(convert src dst (.string s)).run P w=q.run P w→ay P base w0 φ H.bs H'.low S' w q v→ay P base w0 φ H.bs H'.low S' w (convert src dst (.string s)) v:=by
   intro q S' v hq ⟨v',w',φ',h1,h2⟩;exact⟨v',w',φ',hq.trans h1,h2⟩
  split at h
  ·rename_i he;simp only[Option.some.injEq,Prod.mk.injEq]at h;obtain⟨rfl,rfl⟩:=h;exact lift (step8 he) (lY hW e s _)
  ·rename_i he;simp only[Option.some.injEq,Prod.mk.injEq]at h;obtain⟨rfl,rfl⟩:=h;exact lift (step32 he) (lZ hW e s _)
  ·cases h
 ·cases h
end
structure ER(φ:List Loc)(nt:Nat)(e:Env)(a:Act):Prop where
 size:a.tmps.size=nt
 val:∀t,VR φ (e.get t) (a.tmps.getD t undef)
section
variable{P:Program}{base:Bs}{w0:World}{φ:List Loc}{S:List Blk}{w:World}{nt:Nat}{e:Env}{a:Act}
theorem ER.mono{φ':List Loc}(hx:Ext φ φ')(h:ER φ nt e a):ER φ' nt e a:=⟨h.size,fun t=>(h.val t).mono hx⟩
theorem ER.op(h:ER φ nt e a){x:Operand}(hx:C4 x=true):VR φ (opv e x) (a.eval x):=yc ⟨h.size,h.val⟩ rfl hx
theorem ER.put(h:ER φ nt e a){d:Option Nat}(hd:dD nt d=true){v v':Value}(hv:VR φ v v'):ER φ nt (P7 e d v) (a.put d v'):=by
 cases d with
 |none=>exact h
 |some d=>
  simp only[dD,decide_eq_true_eq]at hd;refine⟨by simp [Act.put,h.size],fun t=>?_⟩;simp only[Act.put,P7,Env.get];by_cases hdt:d=t
  ·subst hdt;rw[if_pos rfl];have:d<a.tmps.size:=by rw[h.size];exact hd
   simp only[Array.getD_eq_getD_getElem?,Array.getElem?_setIfInBounds,if_true,this,Option.getD_some];exact hv
  ·rw[if_neg hdt];have:=h.val t;simp only[Array.getD_eq_getD_getElem?,Array.getElem?_setIfInBounds,if_neg hdt]at this ⊢;exact this
theorem ER.wanted(h:ER φ nt e a)(ops:Array Oper)(o:Oper)(hd:∀(j:Nat)(oj:Oper)(d:Nat),ops[j]?=some oj→oj.dst=some d→d<nt) (hl:U0 ops e o=false):D6 ops e o=Region.wanted o (yielded ops a.tmps):=by
 unfold U0 at hl;unfold D6 Region.wanted;cases hg:o.guard with
 |none=>rfl
 |some g=>
  obtain⟨j,b⟩:=g;rw[hg]at hl;simp only[yielded];cases hj:ops[j]? with
  |none=>rfl
  |some oj=>
   simp only[hj,Option.bind_some]at hl;cases hdd:oj.dst with
   |none=>simp [hdd]
   |some d=>
    simp only[hdd]at hl;simp only[hdd,Option.bind_some];have hlt:d<a.tmps.size:=by rw[h.size];exact hd j oj d hj hdd
    have hv:=h.val d;have hgd:a.tmps[d]?=some (a.tmps.getD d undef):=by simp [hlt]
    rw[hgd];generalize a.tmps.getD d undef=z at hv;generalize e.get d=y at hv hl;cases hv<;>first|rfl|cases hl
theorem ER.args(h:ER φ nt e a){xs:Array Operand}(hx:xs.toList.all C4=true):VRs φ (xs.toList.map (opv e)) (xs.toList.map a.eval):=
 VRs.map _ _ _ fun x hm=>h.op (List.all_eq_true.1 hx x hm)
theorem ER.parts(h:ER φ nt e a){xs:Array (Nat×Operand)}(hx:(xs.toList.map (·.2)).all C4=true):
  fY φ (xs.toList.map fun(i,x)=>(i,opv e x)) (xs.toList.map fun(i,x)=>(i,a.eval x)):=by
 refine⟨by simp,fun i x y p q=>?_⟩;simp only[List.getElem?_map,Option.map_eq_some_iff]at p q;obtain⟨⟨j,z⟩,hz,rfl⟩:=p;obtain⟨⟨j',z'⟩,hz',rfl⟩:=q;rw[hz]at hz';cases hz';exact⟨rfl,h.op (List.all_eq_true.1 hx z (List.mem_map.2 ⟨_,List.mem_of_getElem? hz,rfl⟩))⟩
theorem ER.opt(h:ER φ nt e a){x:Option Operand}(hx:x.toList.all C4=true):(∀v v',x.map (opv e)=some v→x.map a.eval=some v'→VR φ v v')∧(x.map (opv e)).isSome=(x.map a.eval).isSome:=by
 cases x with
 |none=>exact⟨fun v v' p=>(by cases p),rfl⟩
 |some x=>exact⟨fun v v' p q=>(by cases p;cases q;exact h.op (by simpa using hx)),rfl⟩
theorem D5{x:Option Value}{v:Value}{r:Option d9}(h:keep x=some (v,r)):x=some v∧r=none:=by
 unfold keep at h;simp only[Option.map_eq_some_iff,Prod.mk.injEq]at h;obtain⟨y,rfl,rfl,rfl⟩:=h;exact⟨rfl,rfl⟩
theorem C1{x:Option (Value×d9)}{v:Value}{r:Option d9}(h:turn x=some (v,r)):∃H',x=some (v,H')∧r=some H':=by
 unfold turn at h;simp only[Option.map_eq_some_iff,Prod.mk.injEq]at h;obtain⟨⟨y,H'⟩,rfl,rfl,rfl⟩:=h;exact⟨H',rfl,rfl⟩
def N4(P:Program)(base:Bs)(w0:World)(φ:List Loc)(S:List Blk)(w:World)(s:Sem Next)(v:Value):Prop:=
 ∃v',VR φ v v'∧∀w',Cls base w0 φ S w w'→s.run P w'= .ok (.value v') w'
theorem N4.of{s:Sem Value}{v:Value}(h:fW P base w0 φ S w s v):N4 P base w0 φ S w (do pure (.value (←s))) v:=by
 obtain⟨v',h1,h2⟩:=h;exact⟨v',h1,fun w' hc=>by simp only[Sem.run_bind,h2 w' hc,Result.andThen_ok,Sem.run_pure]⟩
theorem N4.all{s:Sem Value}{v:Value}(h:∃v',VR φ v v'∧∀w',s.run P w'= .ok v' w'):N4 P base w0 φ S w (do pure (.value (←s))) v:=
 let⟨v',h1,h2⟩:=h;N4.of ⟨v',h1,fun w' _=>h2 w'⟩
theorem oI{b:Builtin}{ts:Array TypeId}{ty:TypeId}{cs:Array Bool}{H:d9}{args args':LV}{v:Value}(hW:WR base w0 φ H.bs w)(h:D3 P b ts.toList args H=some (v,none))(ha:VRs φ args args'):
  N4 P base w0 φ H.bs w (builtin b ts ty cs args'.toArray) v:=by
 unfold D3 at h;split at h
 ·rename_i x;simp only[Option.map_eq_some_iff,Prod.mk.injEq]at h;obtain⟨v,h,rfl,_⟩:=h;obtain⟨y,ys,rfl,h1,h2⟩:=ha.of_cons;rw[h2.of_nil];have:=xK hW h h1 ty;simp only[Array.toArray_toList]at this;exact N4.of this
 ·rename_i s x;obtain⟨y,ys,rfl,h1,h2⟩:=ha.of_cons;obtain⟨z,zs,rfl,h3,h4⟩:=h2.of_cons;rw[h4.of_nil];have:=pV hW h h1 h3 ty;simp only[Array.toArray_toList]at this;exact N4.of this
 ·rename_i d s;obtain⟨y,ys,rfl,h1,h2⟩:=ha.of_cons;obtain⟨z,zs,rfl,h3,h4⟩:=h2.of_cons;rw[h4.of_nil];have:=wW hW h h1 h3 ty;simp only[Array.toArray_toList]at this;exact N4.of this
 ·simp only[Option.map_eq_some_iff,Prod.mk.injEq]at h;obtain⟨v,h,rfl,_⟩:=h;obtain⟨y,rest,rfl,h1,h2⟩:=gJ h _ ha;refine N4.all ⟨v,h1,fun w'=>?_⟩;have:=h2 w'
  simpa [Builtin.max_] using this
 ·simp only[Option.map_eq_some_iff,Prod.mk.injEq]at h;obtain⟨v,h,rfl,_⟩:=h;obtain⟨y,rest,rfl,h1,h2⟩:=gJ h _ ha;refine N4.all ⟨v,h1,fun w'=>?_⟩;have:=h2 w'
  simpa [Builtin.min_] using this
 ·cases h
theorem eZ{C:A5}{o:Oper}{H:d9}{v:Value}(hW:WR base w0 φ H.bs w)(hE:ER φ nt e a)(hok:o.op.operands.toList.all C4=true)(hc:isCall o.op=false)(h:aop P C o.op e H=some (v,none)):
  N4 P base w0 φ H.bs w (execOp a.eval o) v:=by
 unfold aop at h;unfold execOp;split at h<;>rename_i hop<;>simp only[hop]
 all_goals simp only[hop,Op.operands,List.all_cons,List.all_nil,Bool.and_true,Bool.and_eq_true]at hok
 case h_1 x=>
  obtain⟨h,_⟩:=D5 h;cases h;exact⟨_,hE.op hok,fun w' _=>rfl⟩
 case h_2 x=>
  obtain⟨h,_⟩:=D5 h;cases h;exact⟨_,hE.op hok,fun w' _=>rfl⟩
 case h_3 c x y=>
  have hc:=hE.op hok.1;split at h
  ·rename_i t hb;rw[hb]at hc;obtain⟨h,_⟩:=D5 h;cases h;generalize hcv:a.eval c=cv at hc;cases hc;refine⟨if t then a.eval x else a.eval y,by cases t;exact hE.op hok.2.2;exact hE.op hok.2.1,fun w' _=>?_⟩;simp only[asBool,Sem.run_bind,Sem.run_pure,Result.andThen_ok]
  ·cases h
 case h_4=>obtain⟨_,_,h⟩:=C1 h;cases h
 case h_5=>
  split at h
  ·obtain⟨_,_,h⟩:=C1 h;cases h
  ·cases h
 case h_6 t parts=>
  obtain⟨h,_⟩:=D5 h;have hp:=hE.parts (xs:=parts) (by simpa [List.all_map] using hok);have:=qi h hp;have e1:(parts.map fun(i,x)=>(i,a.eval x))=(parts.toList.map fun(i,x)=>(i,a.eval x)).toArray:=by apply Array.toList_inj.1;simp
  rw[e1];exact N4.all this
 case h_7=>obtain⟨_,_,h⟩:=C1 h;cases h
 case h_8 t x=>
  obtain⟨h,_⟩:=D5 h;exact N4.of (qV hW h (hE.op hok))
 case h_9=>obtain⟨_,_,h⟩:=C1 h;cases h
 case h_10 x=>
  have hx:=hE.op hok;split at h
  ·rename_i ad hb;rw[hb]at hx;obtain⟨h,_⟩:=D5 h;cases h;generalize a.eval x=xv at hx;cases hx with
   |ptr hl=>exact⟨_,.ptr hl,fun w' _=>rfl⟩
  ·rename_i g f c hb;rw[hb]at hx;obtain⟨h,_⟩:=D5 h;cases h;generalize a.eval x=xv at hx;have hx2:=hx;cases hx with
   |func=>exact⟨_,hx2,fun w' _=>rfl⟩
  ·cases h
 case h_11 op t x y yt=>
  obtain⟨h,_⟩:=D5 h;exact N4.all (wz h (hE.op hok.1) (hE.op hok.2) x y)
 case h_12 op t x=>
  obtain⟨h,_⟩:=D5 h;exact N4.all (Cs h (hE.op hok))
 case h_13 s d x=>exact N4.of (wT hW h (hE.op hok))
 case h_14 t x=>
  split at h
  ·rename_i hct;obtain⟨h,_⟩:=D5 h;cases h;exact N4.all ⟨_,.iface t (hE.op hok),fun w'=>run_makeInterface w' t _ hct⟩
  ·cases h
 case h_15 fn first captured=>
  split at h
  ·rename_i g;obtain⟨h,_⟩:=D5 h;cases h;have hok':first.toList.all C4=true∧captured.toList.all C4=true:=by
    simpa [List.all_append] using hok
   have h1:=hE.args hok'.1;have h2:=hE.args hok'.2;refine N4.all ⟨.func (.func g) (first.map a.eval) (captured.map a.eval),.func g ?_ ?_ ?_ ?_,fun w'=>rfl⟩
   ·simp
   ·simp only[Array.toList_map];exact h1.2
   ·simp
   ·simp only[Array.toList_map];exact h2.2
  ·cases h
 case h_16=>obtain⟨_,_,h⟩:=C1 h;cases h
 case h_17=>obtain⟨_,_,h⟩:=C1 h;cases h
 case h_18 t x lo hi mx=>
  obtain⟨h,_⟩:=D5 h;have hok':C4 x=true∧lo.toList.all C4=true∧hi.toList.all C4=true∧mx.toList.all C4=true:=by
   simp only[Array.toList_append,List.all_append,Bool.and_eq_true,Option.toList_toArray,List.all_cons,List.all_nil,Bool.and_true]at hok
   simpa [and_assoc] using hok
  exact N4.all (jy hW h (hE.op hok'.1) (hE.opt hok'.2.1) (hE.opt hok'.2.2.1) (hE.opt hok'.2.2.2))
 case h_19 s x f=>
  obtain⟨h,_⟩:=D5 h;exact N4.all (jD h (hE.op hok))
 case h_20 s x f=>
  obtain⟨h,_⟩:=D5 h;exact N4.all (qz h (hE.op hok))
 case h_21 t x ix=>
  obtain⟨h,_⟩:=D5 h;exact N4.all (jG h (hE.op hok.1) (hE.op hok.2))
 case h_22 t x ix=>
  obtain⟨h,_⟩:=D5 h;exact N4.all (qM h (hE.op hok.1) (hE.op hok.2))
 case h_23 t m k ok=>
  obtain⟨h,_⟩:=D5 h;exact N4.of (pl hW h (hE.op hok.1) (hE.op hok.2))
 case h_24=>obtain⟨_,_,h⟩:=C1 h;cases h
 case h_25=>
  split at h
  ·obtain⟨_,_,h⟩:=C1 h;cases h
  ·cases h
 case h_26 it=>exact N4.of (xV hW h (hE.op hok) o.type)
 case h_27 x i=>
  have hx:=hE.op hok;split at h
  ·rename_i vs hb;rw[hb]at hx;split at h
   rotate_left
   ·cases h
   rename_i hlen;obtain⟨h,_⟩:=D5 h;generalize a.eval x=xv at hx;cases hx with
   |lost v=>exact absurd hlen (by decide)
   |tuple e1 e2=>
    rename_i vs';obtain⟨y,hy,hv⟩:=VRs.get ⟨e1,e2⟩ h;refine N4.all ⟨y,hv,fun w'=>?_⟩;have:vs'[i]?=some y:=by rw[←Array.getElem?_toList];exact hy
    simp only[Instr.extract,this,Sem.run_pure]
  ·cases h
 case h_28 c=>
  unfold dS at h;split at h
  ·rename_i b hb;have hok':c.args.toList.all C4=true:=by
    simp only[Call.operands,hb,Array.toList_append,List.all_append,Bool.and_eq_true]at hok;exact hok.2
   have:=oI (ty:=o.type) (cs:=c.args.map fun| .const _=>true|_=>false) hW h (hE.args hok');have e1:(c.args.toList.map a.eval).toArray=c.args.map a.eval:=by apply Array.toList_inj.1;simp
   rw[e1]at this;obtain⟨v',h1,h2⟩:=this;refine⟨v',h1,fun w' hc'=>?_⟩;have h2':=h2 w' hc';simp only[resolve,hb,Sem.run_bind,Sem.run_pure,Result.andThen_ok,invoke];exact h2'
  ·rename_i f hb;rw[hop]at hc;obtain⟨cal,as,ats⟩:=c;simp only at hb;subst hb;cases hc
  ·cases h
 case h_29=>cases h
def Q2(P:Program)(base:Bs)(w0:World)(φ:List Loc)(S:List Blk)(low:Nat)(S':List Blk)(w:World)(s:Sem Next)(v:Value):Prop:=
 ∃v' w' φ',(s.run P w= .ok (.value v') w'∨(s.run P w= .ok .skip w'∧v'=undef))∧Ext φ φ'∧VR φ' v v'∧WR base w0 φ' S' w'∧Fr φ S low w w'
theorem Q2.of{low:Nat}{S':List Blk}{s:Sem Value}{v:Value}(h:ay P base w0 φ S low S' w s v):Q2 P base w0 φ S low S' w (do pure (.value (←s))) v:=by
 obtain⟨v',w',φ',h1,h2⟩:=h;exact⟨v',w',φ',.inl (by simp only[Sem.run_bind,h1,Result.andThen_ok,Sem.run_pure]),h2⟩
theorem Q2.skip{low:Nat}{S':List Blk}{s:Sem Unit}(h:∃w',s.run P w= .ok () w'∧WR base w0 φ S' w'∧Fr φ S low w w'):Q2 P base w0 φ S low S' w (do s;pure .skip) undef:=by
 obtain⟨w',h1,h2,h3⟩:=h;exact⟨undef,w',φ,.inr ⟨by simp only[Sem.run_bind,h1,Result.andThen_ok,Sem.run_pure],rfl⟩,Ext.refl φ,VR.undef' φ,h2,h3⟩
theorem oJ{b:Builtin}{ts:Array TypeId}{ty:TypeId}{cs:Array Bool}{H H':d9}{args args':LV}{v:Value}(hW:WR base w0 φ H.bs w)(h:D3 P b ts.toList args H=some (v,some H'))(ha:VRs φ args args'):
  Q2 P base w0 φ H.bs H'.low H'.bs w (builtin b ts ty cs args'.toArray) v:=by
 unfold D3 at h;split at h
 ·simp only[Option.map_eq_some_iff,Prod.mk.injEq]at h;obtain⟨v,h,_,h2⟩:=h;cases h2
 ·rename_i s x;obtain⟨y,ys,rfl,h1,h2⟩:=ha.of_cons;obtain⟨z,zs,rfl,h3,h4⟩:=h2.of_cons;rw[h4.of_nil];have:=pX hW h h1 h3 ty;simp only[Array.toArray_toList]at this;exact Q2.of this
 ·rename_i d s;obtain⟨y,ys,rfl,h1,h2⟩:=ha.of_cons;obtain⟨z,zs,rfl,h3,h4⟩:=h2.of_cons;rw[h4.of_nil];have:=wX hW h h1 h3 ty;simp only[Array.toArray_toList]at this;exact Q2.of this
 ·simp only[Option.map_eq_some_iff,Prod.mk.injEq]at h;obtain⟨v,h,_,h2⟩:=h;cases h2
 ·simp only[Option.map_eq_some_iff,Prod.mk.injEq]at h;obtain⟨v,h,_,h2⟩:=h;cases h2
 ·cases h
theorem I8{x:Option Value}{v:Value}{H':d9}(h:keep x=some (v,some H')):False:=by
 have:=(D5 h).2;cases this
theorem pz{C:A5}{o:Oper}{H H':d9}{v:Value}(hW:WR base w0 φ H.bs w)(hE:ER φ nt e a)(hok:o.op.operands.toList.all C4=true)(hc:isCall o.op=false)(h:aop P C o.op e H=some (v,some H')):
  Q2 P base w0 φ H.bs H'.low H'.bs w (execOp a.eval o) v:=by
 unfold aop at h;unfold execOp;split at h<;>rename_i hop<;>simp only[hop]
 all_goals simp only[hop,Op.operands,List.all_cons,List.all_nil,Bool.and_true,Bool.and_eq_true]at hok
 all_goals try exact(I8 h).elim
 case h_3=>
  split at h
  ·exact(I8 h).elim
  ·cases h
 case h_4 t=>
  obtain⟨_,h,e1⟩:=C1 h;cases e1;simp only[Option.map_eq_some_iff,Prod.mk.injEq]at h;obtain⟨z,hz,rfl,rfl⟩:=h;exact Q2.of (pQ hW hz _)
 case h_5 t x=>
  split at h
  ·rename_i hone;obtain⟨_,h,e1⟩:=C1 h;cases e1;simp only[Option.some.injEq,Prod.mk.injEq]at h;obtain⟨rfl,rfl⟩:=h;exact Q2.of (wC hW (hE.op hok) hone _)
  ·cases h
 case h_7 t len parts=>
  obtain⟨_,h,e1⟩:=C1 h;cases e1;have hp:=hE.parts (xs:=parts) (by simpa [List.all_map] using hok);have:=iv hW h hp H'.low;have e1:(parts.map fun(i,x)=>(i,a.eval x))=(parts.toList.map fun(i,x)=>(i,a.eval x)).toArray:=by apply Array.toList_inj.1;simp
  rw[e1];exact Q2.of this
 case h_9 t x y=>
  obtain⟨_,h,e1⟩:=C1 h;cases e1;simp only[Option.map_eq_some_iff,Prod.mk.injEq]at h;obtain⟨H2,hq,rfl,rfl⟩:=h;exact Q2.skip (yD hW hq (hE.op hok.1) (hE.op hok.2))
 case h_10=>
  split at h
  ·exact(I8 h).elim
  ·exact(I8 h).elim
  ·cases h
 case h_13 s d x=>exact Q2.of (wV hW h (hE.op hok))
 case h_14=>
  split at h
  ·exact(I8 h).elim
  ·cases h
 case h_15=>
  split at h
  ·exact(I8 h).elim
  ·cases h
 case h_16 t=>
  obtain⟨_,h,e1⟩:=C1 h;cases e1;simp only[Option.some.injEq,Prod.mk.injEq]at h;obtain⟨rfl,rfl⟩:=h;exact Q2.of (mC hW t _)
 case h_17 t l c=>
  obtain⟨_,h,e1⟩:=C1 h;cases e1;exact Q2.of (jH hW h (hE.op hok.1) (hE.op hok.2) _)
 case h_24 t m k x=>
  obtain⟨_,h,e1⟩:=C1 h;cases e1;simp only[Option.map_eq_some_iff,Prod.mk.injEq]at h;obtain⟨H2,hq,rfl,rfl⟩:=h;exact Q2.skip (jI hW hq (hE.op hok.1) (hE.op hok.2.1) (hE.op hok.2.2))
 case h_25 t x=>
  have hx:=hE.op hok;split at h
  ·rename_i s hu hs;rw[hs]at hx;obtain⟨_,h,e1⟩:=C1 h;cases e1;simp only[Option.some.injEq,Prod.mk.injEq]at h;obtain⟨rfl,rfl⟩:=h;generalize a.eval x=xv at hx;cases hx;exact Q2.of (rx hW hu _)
  ·cases h
 case h_26 it=>exact Q2.of (xX hW h (hE.op hok) o.type)
 case h_27=>
  split at h
  ·split at h
   ·exact(I8 h).elim
   ·cases h
  ·cases h
 case h_28 c=>
  unfold dS at h;split at h
  ·rename_i b hb;have hok':c.args.toList.all C4=true:=by
    simp only[Call.operands,hb,Array.toList_append,List.all_append,Bool.and_eq_true]at hok;exact hok.2
   have:=oJ (ty:=o.type) (cs:=c.args.map fun| .const _=>true|_=>false) hW h (hE.args hok');have e1:(c.args.toList.map a.eval).toArray=c.args.map a.eval:=by apply Array.toList_inj.1;simp
   rw[e1]at this;obtain⟨v',w',φ',h1,h2⟩:=this;refine⟨v',w',φ',?_,h2⟩;simp only[resolve,hb,Sem.run_bind,Sem.run_pure,Result.andThen_ok,invoke];exact h1
  ·rename_i f hb;rw[hop]at hc;obtain⟨cal,as,ats⟩:=c;simp only at hb;subst hb;cases hc
  ·cases h
 case h_29=>cases h
structure Le(H H':d9):Prop where
 low:H'.low≤H.low
 len:H.bs.length≤H'.bs.length
 same:∀b,b<H'.low→b<H.bs.length→H'.bs[b]?=H.bs[b]?
theorem Le.refl(H:d9):Le H H:=⟨lR,lR,fun _ _ _=>rfl⟩
theorem Le.trans{A B C:d9}(h:Le A B)(k:Le B C):Le A C:=
 ⟨Nat.le_trans k.low h.low,Nat.le_trans h.len k.len,fun b hb hl=>by rw[k.same b hb (Nat.lt_of_lt_of_le hl h.len),h.same b (Nat.lt_of_lt_of_le hb k.low) hl]⟩
theorem Le.push(H:d9)(x:Blk):Le H (H.push x):=
 ⟨lR,by simp [d9.push],fun b _ hl=>by simp [d9.push,List.getElem?_append_left hl]⟩
theorem Le.put(H:d9)(b:Nat)(x:Blk):Le H (H.put b x):=
 ⟨Nat.min_le_left _ _,by simp [d9.put],fun c hc _=>by
  have:c<min H.low b:=hc;simp only[d9.put,List.getElem?_set];rw[if_neg oM]⟩
theorem Fr.trans{φ φ':List Loc}{H H' H'':d9}{w w' w'':World}(hx:Ext φ φ')(hl:Le H H')(hl2:Le H' H'')(hlen:φ.length=H.bs.length)(h:Fr φ H.bs H'.low w w')(k:Fr φ' H'.bs H''.low w' w''):Fr φ H.bs H''.low w w'':=by
 intro b B l hb hB hd hφ;have hbl:b<H.bs.length:=(List.getElem?_eq_some_iff.1 hB).1;have h2:H'.bs[b]?=some B:=by rw[hl.same b (Nat.lt_of_lt_of_le hb hl2.low) hbl];exact hB
 rw[k b B l hb h2 hd (hx _ _ hφ),h b B l (Nat.lt_of_lt_of_le hb hl2.low) hB hd hφ]
theorem xJ{H H':d9}{ts:List TypeId}{s x v:Value}(h:C3 P H ts s x=some (v,some H')):Le H H':=by
 unfold C3 at h
 repeat' split at h
 all_goals first|(cases h;done)|(simp at h;done)|skip
 all_goals (simp only[Option.some.injEq,Prod.mk.injEq]at h;obtain⟨_,rfl⟩:=h)
 ·exact Le.push _ _
 ·exact Le.push _ _
 ·exact(Le.put _ _ _).trans (Le.push _ _)
theorem Ek{H H':d9}{ts:List TypeId}{s x v:Value}(h:je P H ts s x=some (v,some H')):Le H H':=by
 unfold je at h
 repeat' split at h
 all_goals first|(cases h;done)|(simp at h;done)|skip
 all_goals (simp only[Option.some.injEq,Prod.mk.injEq]at h;obtain⟨_,rfl⟩:=h)
 exact Le.put _ _ _
theorem tS{b:Builtin}{ts:List TypeId}{args:LV}{H H':d9}{v:Value}(h:D3 P b ts args H=some (v,some H')):Le H H':=by
 unfold D3 at h;split at h
 ·simp only[Option.map_eq_some_iff,Prod.mk.injEq]at h;obtain⟨v,h,_,h2⟩:=h;cases h2
 ·exact xJ h
 ·exact Ek h
 ·simp only[Option.map_eq_some_iff,Prod.mk.injEq]at h;obtain⟨v,h,_,h2⟩:=h;cases h2
 ·simp only[Option.map_eq_some_iff,Prod.mk.injEq]at h;obtain⟨v,h,_,h2⟩:=h;cases h2
 ·cases h
theorem jr{C:A5}{o:Op}{H H':d9}{v:Value}(hc:isCall o=false)(h:aop P C o e H=some (v,some H')):Le H H':=by
 unfold aop at h;split at h
 all_goals try exact(I8 h).elim
 case h_3=>
  split at h
  ·exact(I8 h).elim
  ·cases h
 case h_4 t=>
  obtain⟨_,h,e1⟩:=C1 h;cases e1;simp only[Option.map_eq_some_iff,Prod.mk.injEq]at h;obtain⟨z,hz,rfl,rfl⟩:=h;exact Le.push _ _
 case h_5 t x=>
  split at h
  ·obtain⟨_,h,e1⟩:=C1 h;cases e1;simp only[Option.some.injEq,Prod.mk.injEq]at h;obtain⟨rfl,rfl⟩:=h;exact Le.push _ _
  ·cases h
 case h_7 t len parts=>
  obtain⟨_,h,e1⟩:=C1 h;cases e1;unfold O9 at h
  repeat' split at h
  all_goals first|(cases h;done)|skip
  cases h;exact Le.push _ _
 case h_9 t x y=>
  obtain⟨_,h,e1⟩:=C1 h;cases e1;simp only[Option.map_eq_some_iff,Prod.mk.injEq]at h;obtain⟨H2,hq,rfl,rfl⟩:=h;unfold sto at hq
  repeat' split at hq
  all_goals first|(cases hq;done)|skip
  cases hq;exact Le.put _ _ _
 case h_10=>
  split at h
  ·exact(I8 h).elim
  ·exact(I8 h).elim
  ·cases h
 case h_13 s d x=>
  unfold W8 at h
  repeat' split at h
  all_goals first|(cases h;done)|(simp at h;done)|skip
  all_goals (simp only[Option.some.injEq,Prod.mk.injEq]at h;obtain⟨_,rfl⟩:=h)
  ·exact Le.push _ _
  ·exact Le.push _ _
 case h_14=>
  split at h
  ·exact(I8 h).elim
  ·cases h
 case h_15=>
  split at h
  ·exact(I8 h).elim
  ·cases h
 case h_16 t=>
  obtain⟨_,h,e1⟩:=C1 h;cases e1;simp only[Option.some.injEq,Prod.mk.injEq]at h;obtain⟨rfl,rfl⟩:=h;exact Le.push _ _
 case h_17 t l c=>
  obtain⟨_,h,e1⟩:=C1 h;cases e1;unfold V3 at h
  repeat' split at h
  all_goals first|(cases h;done)|skip
  cases h;exact Le.push _ _
 case h_24 t m k x=>
  obtain⟨_,h,e1⟩:=C1 h;cases e1;simp only[Option.map_eq_some_iff,Prod.mk.injEq]at h;obtain⟨H2,hq,rfl,rfl⟩:=h;unfold V4 at hq
  repeat' split at hq
  all_goals first|(cases hq;done)|skip
  all_goals cases hq
  ·exact Le.put _ _ _
  ·exact Le.put _ _ _
 case h_25 t x=>
  split at h
  ·obtain⟨_,h,e1⟩:=C1 h;cases e1;simp only[Option.some.injEq,Prod.mk.injEq]at h;obtain⟨rfl,rfl⟩:=h;exact Le.push _ _
  ·cases h
 case h_26 it=>
  unfold gQ at h
  repeat' split at h
  all_goals first|(cases h;done)|(simp at h;done)|skip
  simp only[Option.some.injEq,Prod.mk.injEq]at h;obtain⟨_,rfl⟩:=h;exact Le.put _ _ _
 case h_27=>
  split at h
  ·split at h
   ·exact(I8 h).elim
   ·cases h
  ·cases h
 case h_28 c=>
  unfold dS at h;split at h
  ·exact tS h
  ·rename_i f hb;obtain⟨cal,as,ats⟩:=c;simp only at hb;subst hb;cases hc
  ·cases h
 case h_29=>cases h
def bP(P:Program)(g:FuncId):Prop:=∃fn,P.funcs[g]?=some fn∧(fn.name== "runtime.NumGoroutine")=false∧fn.body.isNone=false
def aB(P:Program)(base:Bs)(w0:World)(C:A5):Prop:=
 ∀g args H v r,C g args H=some (v,r)→bP P g∧(∀H',r=some H'→Le H H')∧(r=none→L0 v=true)∧
  ∀(φ:List Loc)(w:World)(args':LV),VRs φ args args'→WR base w0 φ H.bs w→
   Calls P g args'.toArray w fun en w'=>match r with
    |none=>en= .returned v∧Cls base w0 φ H.bs w w'
    |some H'=>∃v' φ',en= .returned v'∧Ext φ φ'∧VR φ' v v'∧WR base w0 φ' H'.bs w'∧Fr φ H.bs H'.low w w'
theorem gZ{g:FuncId}(h:bP P g)(args:Array Value)(w:World):(callFunc g args).run P w= .ok (.enter g args) w:=by
 obtain⟨fn,h1,h2,h3⟩:=h;simp only[callFunc,Sem.run_bind,run_program,Result.andThen_ok,h1,h2,h3,Bool.false_eq_true,if_false,Sem.run_pure]
theorem aR{c:Call}{f:Operand}{g:FuncId}{first captured:Array Value}(hc:c.callee= .value f){ty:TypeId}(hv:a.eval f= .func (.func g) first captured)(he:bP P g){o:Oper}(ho:o.op= .call c)(w:World):
  (execOp a.eval o).run P w= .ok (.enter g (first++c.args.map a.eval++captured)) w:=by
 unfold execOp;simp only[ho,resolve,hc,hv,Deferred.ofValue,Sem.run_bind,Sem.run_pure,Result.andThen_ok,invoke,gZ he]
end
end Go.Proofs.YtofbhlhamfkljaaGreatDoor.Ve
namespace Go.Proofs.YtofbhlhamfkljaaGreatDoor.Ve
open Go Go.RowKit
set_option linter.unusedVariables false
set_option linter.unusedSimpArgs false
set_option maxHeartbeats 0
section
variable{ops:Array Oper}{A:List Nat}
structure ml(ops:Array Oper)(A:List Nat):Prop where
 sel:Region.noSelect ops=true
 back:∀(i:Nat) oi,ops[i]?=some oi→∀d∈R1 oi,d<i
 anc:∀(i k:Nat) oi,ops[i]?=some oi→k<ops.size→isAnc A i k=true→∃d∈R1 oi,d=k∨isAnc A d k=true
 look:∀(i k:Nat) oi ok d,ops[i]?=some oi→ops[k]?=some ok→ok.dst=some d→d∈oi.looksAt ops→(k<i∧isAnc A i k=true)∨(i<k∧isAnc A k i=true)
 dst:∀(i k:Nat) oi ok d,ops[i]?=some oi→ops[k]?=some ok→oi.dst=some d→ok.dst=some d→i=k
 flo:∀(i k:Nat) oi ok d,ops[i]?=some oi→ops[k]?=some ok→Y2 ok.op=true→ok.dst=some d→(A8 oi.op=true∧Y2 oi.op=false)∨d∉oi.looksAt ops
 ord:∀(i k:Nat) oi ok,ops[i]?=some oi→ops[k]?=some ok→k<i→A8 oi.op=true→Y2 oi.op=false→A8 ok.op=true→isAnc A i k=true
 free:∀(i:Nat) oi,ops[i]?=some oi→Y2 oi.op=true→oi.guard=none∧∃d,oi.dst=some d
theorem P1{i:Nat}{o:Oper}(h:ops[i]?=some o):i<ops.size:=(Array.getElem?_eq_some_iff.1 h).1
theorem ag9(h:jt ops A=true):ml ops A:=by
 simp only[jt,Bool.and_eq_true,List.all_eq_true,List.mem_range]at h;have h1:∀(i:Nat) oi,ops[i]?=some oi→iI ops A i oi=true:=fun i oi hi=>by
  have:=h.2 i (P1 hi);simpa only[hi] using this
 have h2:∀(i k:Nat) oi ok,ops[i]?=some oi→ops[k]?=some ok→jR ops A i k oi ok=true:=fun i k oi ok hi hk=>by
  have:=h1 i oi hi;simp only[iI,Bool.and_eq_true,List.all_eq_true,List.mem_range]at this;have:=this.1.2 k (P1 hk);simpa only[hk] using this
 have h3:∀(i k:Nat) oi ok d,ops[i]?=some oi→ops[k]?=some ok→ok.dst=some d→
   ((!(oi.looksAt ops).contains d||(if k<i then isAnc A i k else if i<k then isAnc A k i else false))=true∧(k==i||oi.dst !=some d)=true)∧(!Y2 ok.op||((A8 oi.op&& !Y2 oi.op)|| !(oi.looksAt ops).contains d))=true:=fun i k oi ok d hi hk hd=>by
  have:=h2 i k oi ok hi hk;simp only[jR,hd,Bool.and_eq_true]at this;exact this.1
 refine⟨h.1,fun i oi hi d hd=>?_,fun i k oi hi hk ha=>?_,fun i k oi ok d hi hk hd hl=>?_,fun i k oi ok d hi hk hdi hdk=>?_,fun i k oi ok d hi hk hf hd=>?_,fun i k oi ok hi hk hlt t1 f1 t2=>?_,fun i oi hi hf=>?_⟩
 ·have:=h1 i oi hi;simp only[iI,Bool.and_eq_true,List.all_eq_true,decide_eq_true_eq]at this;exact this.1.1.1 d hd
 ·have:=h1 i oi hi;simp only[iI,Bool.and_eq_true,List.all_eq_true,List.mem_range]at this;have:=this.1.1.2 k hk;rw[ha]at this
  simpa using this
 ·have:=(h3 i k oi ok d hi hk hd).1.1;have hc:(oi.looksAt ops).contains d=true:=by simpa using hl
  rw[hc]at this;simp only[Bool.not_true,Bool.false_or]at this;split at this
  ·exact .inl ⟨by assumption,this⟩
  ·split at this
   ·exact .inr ⟨by assumption,this⟩
   ·cases this
 ·have:=(h3 i k oi ok d hi hk hdk).1.2;rw[hdi]at this;simp at this;exact this.symm
 ·have:=(h3 i k oi ok d hi hk hd).2;rw[hf]at this;simp at this;rcases this with h|h
  ·exact .inl h
  ·exact .inr (by simpa using h)
 ·have:=h2 i k oi ok hi hk;simp only[jR,Bool.and_eq_true]at this;have:=this.2;rw[t1,f1,t2,decide_eq_true hlt]at this
  simpa using this
 ·have:=h1 i oi hi;simp only[iI,Bool.and_eq_true]at this;have:=this.2;rw[hf]at this;simp at this;exact⟨this.1,Option.isSome_iff_exists.1 this.2⟩
theorem ml.anc_lt(hM:ml ops A):∀(i k:Nat) oi,ops[i]?=some oi→k<ops.size→isAnc A i k=true→k<i:=by
 intro i;induction i using Nat.strongRecOn with
 |ind i ih=>
  intro k oi hi hk h;obtain⟨d,hd,h2⟩:=hM.anc i k oi hi hk h;have hdi:=hM.back i oi hi d hd;rcases h2 with rfl|h2
  ·exact hdi
  ·have hds:d<ops.size:=by have:=P1 hi;omega
   have:=ih d hdi k _ (Array.getElem?_eq_getElem hds) hk h2;omega
theorem ml.done(hM:ml ops A){L:Nat→Prop}(hL:∀(j:Nat) oj,ops[j]?=some oj→L j→∀d∈R1 oj,L d):∀(i k:Nat) oi,ops[i]?=some oi→k<ops.size→(∀d∈R1 oi,L d)→isAnc A i k=true→L k:=by
 intro i;induction i using Nat.strongRecOn with
 |ind i ih=>
  intro k oi hi hk hd h;obtain⟨d,hdm,h2⟩:=hM.anc i k oi hi hk h;have hdi:=hM.back i oi hi d hdm;rcases h2 with rfl|h2
  ·exact hd d hdm
  ·have hds:d<ops.size:=by have:=P1 hi;omega
   have hod:ops[d]?=some ops[d]:=Array.getElem?_eq_getElem hds;exact ih d hdi k _ hod hk (hL d _ hod (hd d hdm)) h2
def nT(ops:Array Oper)(i:Nat):Nat:=((ops.toList.take i).filter fun o=>A8 o.op).length
theorem vI:nT ops 0=0:=rfl
theorem gN{i:Nat}{o:Oper}(h:ops[i]?=some o):nT ops (i+1)=nT ops i+if A8 o.op=true then 1 else 0:=by
 have h':ops.toList[i]?=some o:=by simpa using h
 unfold nT;rw[List.take_add_one,h',List.filter_append,List.length_append]
 congr 1
 simp only[Option.toList_some,List.filter_cons,List.filter_nil];split<;>simp
theorem Ew(i:Nat):nT ops i≤nT ops (i+1):=by
 cases h:ops[i]? with
 |some o=>rw[gN h];omega
 |none=>
  have:ops.size≤i:=by simpa using h
  unfold nT;rw[List.take_of_length_le (by simpa using this),List.take_of_length_le (by simp;omega)];exact lR
theorem pv{i k:Nat}(h:i≤k):nT ops i≤nT ops k:=by
 induction k with
 |zero=>
  have:i=0:=oM;subst this;exact lR
 |succ k ih=>
  by_cases hk:i=k+1
  ·subst hk;exact lR
  ·exact Nat.le_trans (ih oM) (Ew k)
theorem fp{i k:Nat}{o:Oper}(h:ops[i]?=some o)(ht:A8 o.op=true)(hk:i<k):nT ops i<nT ops k:=by
 have h1:=gN h;rw[if_pos ht]at h1;have:=pv (ops:=ops) (show i+1≤k from oM);omega
theorem pu{i k:Nat}{oi ok:Oper}(hi:ops[i]?=some oi)(hk:ops[k]?=some ok)(t1:A8 oi.op=true)(t2:A8 ok.op=true)(h:nT ops i=nT ops k):i=k:=by
 rcases Nat.lt_trichotomy i k with q|q|q
 ·have:=fp hi t1 q;omega
 ·exact q
 ·have:=fp hk t2 q;omega
theorem GI:∀(n m:Nat),m<nT ops n→∃i o,i<n∧ops[i]?=some o∧A8 o.op=true∧nT ops i=m:=by
 intro n;induction n with
 |zero=>intro m h;rw[vI]at h;omega
 |succ n ih=>
  intro m h;by_cases hm:m<nT ops n
  ·obtain⟨i,o,h1,h2⟩:=ih m hm;exact⟨i,o,oM,h2⟩
  ·cases ho:ops[n]? with
   |none=>
    have hsz:ops.size≤n:=by simpa using ho
    have:nT ops (n+1)=nT ops n:=by
     unfold nT;rw[List.take_of_length_le (by simp;omega),List.take_of_length_le (by simp;omega)]
    omega
   |some o=>
    rw[gN ho]at h;split at h
    ·rename_i ht;exact⟨n,o,oM,ho,ht,oM⟩
    ·omega
def isT(ops:Array Oper)(i:Nat):Bool:=match ops[i]? with|some o=>A8 o.op|none=>false
theorem qQ{i:Nat}{o:Oper}(h:ops[i]?=some o):isT ops i=A8 o.op:=by simp [isT,h]
theorem gu:∀c,((List.range c).filter (isT ops)).length=nT ops c:=by
 intro c;induction c with
 |zero=>rfl
 |succ c ih=>
  rw[List.range_succ,List.filter_append,List.length_append,ih];cases h:ops[c]? with
  |some o=>
   rw[gN h]
   congr 1
   simp only[List.filter_cons,qQ h,List.filter_nil];split<;>rfl
  |none=>
   have hsz:ops.size≤c:=by simpa using h
   have:nT ops (c+1)=nT ops c:=by
    unfold nT;rw[List.take_of_length_le (by simp;omega),List.take_of_length_le (by simp;omega)]
   rw[this];simp [isT,h]
theorem om{c:Nat}{o:Oper}(h:ops[c]?=some o)(ht:A8 o.op=true):(Q7 ops)[nT ops c]?=some c:=by
 have key:∀n,c<n→((List.range n).filter (isT ops))[nT ops c]?=some c:=by
  intro n;induction n with
  |zero=>intro h;omega
  |succ n ih=>
   intro hn;rw[List.range_succ,List.filter_append];by_cases hc:c<n
   ·rw[List.getElem?_append_left]
    ·exact ih hc
    ·rw[gu];exact fp h ht hc
   ·have:c=n:=oM;subst this;rw[List.getElem?_append_right (by rw[gu];exact lR),gu,Nat.sub_self];simp [qQ h,ht]
 exact key ops.size (P1 h)
theorem vT{α:Type}(q:α→Bool):∀(l:List α)(j:Nat),(j<(l.takeWhile q).length→∃x,l[j]?=some x∧q x=true)∧((l.takeWhile q).length<j→j≤l.length→∃x,l[(l.takeWhile q).length]?=some x∧q x=false)
 |[],j=>⟨fun h=>by simp at h,fun h k=>by simp at h k;omega⟩
 |a::l,j=>by
  rw[List.takeWhile_cons];cases h:q a with
  |true=>
   simp only[if_true,List.length_cons];refine⟨fun hj=>?_,fun hj hk=>?_⟩
   ·cases j with
    |zero=>exact⟨a,rfl,h⟩
    |succ j=>obtain⟨x,h1,h2⟩:=(vT q l j).1 oM;exact⟨x,by simpa using h1,h2⟩
   ·obtain⟨x,h1,h2⟩:=(vT q l (j-1)).2 oM oM;exact⟨x,by simpa using h1,h2⟩
  |false=>
   simp only[Bool.false_eq_true,if_false,List.length_nil];exact⟨fun hj=>oM,fun hj hk=>⟨a,rfl,h⟩⟩
def aM(ops:Array Oper)(A:List Nat)(i:Nat):Nat×Nat:=Bp A (Q7 ops) i
theorem Ct{i j:Nat}(h:j<(aM ops A i).1):∃c o,ops[c]?=some o∧A8 o.op=true∧nT ops c=j∧isAnc A i c=true:=by
 obtain⟨c,h1,h2⟩:=(vT (fun c=>isAnc A i c) (Q7 ops) j).1 h;have hm:c∈Q7 ops:=List.mem_of_getElem? h1;simp only[Q7,List.mem_filter,List.mem_range]at hm;obtain⟨o,ho⟩:∃o,ops[c]?=some o:=⟨ops[c],Array.getElem?_eq_getElem hm.1⟩
 have ht:A8 o.op=true:=by have:=hm.2;simpa [ho] using this
 refine⟨c,o,ho,ht,?_,h2⟩;have h3:=om ho ht;have hn:(Q7 ops).Nodup:=List.Pairwise.filter _ List.nodup_range;have hlt:nT ops c<(Q7 ops).length:=(List.getElem?_eq_some_iff.1 h3).1;exact((List.getElem?_inj hlt hn).1 (h3.trans h1.symm))
theorem NV{i j:Nat}(h:(aM ops A i).2<j)(hj:j≤nT ops ops.size):∃c o,ops[c]?=some o∧A8 o.op=true∧nT ops c<j∧isAnc A c i=true:=by
 have hl:(Q7 ops).length=nT ops ops.size:=gu ops.size;obtain⟨c,h1,h2⟩:=(vT (fun c=> !isAnc A c i) (Q7 ops) j).2 h oM;have hm:c∈Q7 ops:=List.mem_of_getElem? h1;simp only[Q7,List.mem_filter,List.mem_range]at hm;obtain⟨o,ho⟩:∃o,ops[c]?=some o:=⟨ops[c],Array.getElem?_eq_getElem hm.1⟩
 have ht:A8 o.op=true:=by have:=hm.2;simpa [ho] using this
 refine⟨c,o,ho,ht,?_,by simpa using h2⟩;have h3:=om ho ht;have hn:(Q7 ops).Nodup:=List.Pairwise.filter _ List.nodup_range;have hlt:nT ops c<(Q7 ops).length:=(List.getElem?_eq_some_iff.1 h3).1;have:nT ops c=(aM ops A i).2:=(List.getElem?_inj hlt hn).1 (h3.trans h1.symm);omega
structure Tr(P:Program)(C:A5)(ops:Array Oper)(A:List Nat)(n:Nat)(E:Nat→Env)(V:Nat→Value)(K:Nat→d9):Prop where
 step:∀(i:Nat) o,i<n→ops[i]?=some o→E (i+1)=P7 (E i) o.dst (V i)
 nl:∀(i:Nat) o,i<n→ops[i]?=some o→U0 ops (E i) o=false
 off:∀(i:Nat) o,i<n→ops[i]?=some o→D6 ops (E i) o=false→V i=undef∧(A8 o.op=true→K (nT ops i+1)=K (nT ops i))
 turn:∀(i:Nat) o,i<n→ops[i]?=some o→D6 ops (E i) o=true→A8 o.op=true→∃r,aop P C o.op (E i) (K (nT ops i))=some (V i,r)∧K (nT ops i+1)=r.getD (K (nT ops i))
 pure:∀(i:Nat) o,i<n→ops[i]?=some o→D6 ops (E i) o=true→A8 o.op=false→rdK o.op=true→∀j,j≤nT ops n→(aM ops A i).1≤j→j≤(aM ops A i).2→aop P noC o.op (E i) (K j)=some (V i,none)
 flat:∀(i:Nat) o,i<n→ops[i]?=some o→D6 ops (E i) o=true→A8 o.op=false→rdK o.op=false→∀H2,aop P noC o.op (E i) H2=some (V i,none)
theorem ql{P:Program}:∀{obs:List (Op×Env×Value×Nat)}{j:Nat}{H:d9},sS P obs j H→∀o e v hi,(o,e,v,hi)∈obs→j≤hi→aop P noC o e H=some (v,none)
 |(o',e',v',hi')::r,j,H,h,o,e,v,hi,hm,hj=>by
  rcases List.mem_cons.1 hm with hm|hm
  ·cases hm;exact h.1 hj
  ·exact ql h.2 o e v hi hm hj
theorem qk{P:Program}{o:Op}{e:Env}{v:Value}{lo:Nat}:∀{Ks:List (Nat×d9)},sR P o e v lo Ks→∀j K,(j,K)∈Ks→lo≤j→aop P noC o e K=some (v,none)
 |(j',K')::r,h,j,K,hm,hj=>by
  rcases List.mem_cons.1 hm with hm|hm
  ·cases hm;exact h.1 hj
  ·exact qk h.2 j K hm hj
theorem sH{P:Program}{C:A5}{o:Op}{e:Env}{H H2:d9}(ht:A8 o=false)(hr:rdK o=false):aop P C o e H=aop P C o e H2:=by
 cases o<;>simp only[A8,rdK,Bool.true_eq_false,Bool.false_eq_true]at ht hr<;>rfl
theorem Bo{i:Nat}{o:Oper}(h:ops[i]?=some o):(gL ops).drop i=(o,aM ops (E6 ops.toList []) i)::(gL ops).drop (i+1):=by
 have hl:i<(gL ops).length:=by simp [gL];exact P1 h
 rw[List.drop_eq_getElem_cons hl]
 congr 1
 have h':ops.toList[i]?=some o:=by simpa using h
 have:(gL ops)[i]?=some (o,aM ops (E6 ops.toList []) i):=by
  simp only[gL,List.getElem?_map,List.getElem?_zipIdx,h',Option.map_some,Nat.zero_add];rfl
 exact Option.some.inj ((List.getElem?_eq_getElem hl).symm.trans this)
theorem xO{P:Program}{C:A5}(hM:ml ops (E6 ops.toList [])){e':Env}{H':d9}:∀(g i:Nat)(t:Nat)(Ks:List (Nat×d9))(obs:List (Op×Env×Value×Nat))(E:Nat→Env)(V:Nat→Value)(K:Nat→d9),g+i=ops.size→t=nT ops i→
  Tr P C ops (E6 ops.toList []) i E V K→(∀j,j<nT ops i→(j,K j)∈Ks)→(∀(x:Nat) o,x<i→ops[x]?=some o→D6 ops (E x) o=true→A8 o.op=false→rdK o.op=true→(o.op,E x,V x,(aM ops (E6 ops.toList []) x).2)∈obs)→
  I0 P C ops t Ks obs ((gL ops).drop i) (E i) (K (nT ops i))=some (e',H')→
  ∃E' V' K',Tr P C ops (E6 ops.toList []) ops.size E' V' K'∧E' 0=E 0∧K' 0=K 0∧E' ops.size=e'∧K' (nT ops ops.size)=H':=by
 intro g;induction g with
 |zero=>
  intro i t Ks obs E V K hg ht hT hK hO h;have:i=ops.size:=oM;subst this;rw[dN (by simp [gL])]at h;simp only[I0,Option.some.injEq,Prod.mk.injEq]at h;exact⟨E,V,K,hT,rfl,rfl,h.1,h.2⟩
 |succ g ih=>
  intro i t Ks obs E V K hg ht hT hK hO h;subst ht;obtain⟨o,ho⟩:∃o,ops[i]?=some o:=⟨ops[i]'oM,Array.getElem?_eq_getElem oM⟩
  rw[Bo ho]at h;obtain⟨wlo,whi⟩:∃a b,aM ops (E6 ops.toList []) i=(a,b):=⟨_,_,rfl⟩
  have hsucc:=gN ho;rw[show aM ops (E6 ops.toList []) i=((aM ops (E6 ops.toList []) i).1,(aM ops (E6 ops.toList []) i).2) from rfl]at h;simp only[I0]at h;split at h
  ·cases h
  rename_i hnl;have hnl:U0 ops (E i) o=false:=by simpa using hnl
  have next:∀(v:Value)(H2:d9)(Ks':List (Nat×d9))(obs':List (Op×Env×Value×Nat)),
    (A8 o.op=false→H2=K (nT ops i))→
    (D6 ops (E i) o=false→v=undef∧H2=K (nT ops i))→
    (D6 ops (E i) o=true→A8 o.op=true→∃r,aop P C o.op (E i) (K (nT ops i))=some (v,r)∧H2=r.getD (K (nT ops i)))→
    (D6 ops (E i) o=true→A8 o.op=false→rdK o.op=true→∀j,j≤nT ops i→(aM ops (E6 ops.toList []) i).1≤j→aop P noC o.op (E i) (K j)=some (v,none))→
    (D6 ops (E i) o=true→A8 o.op=false→rdK o.op=false→∀H2,aop P noC o.op (E i) H2=some (v,none))→
    (A8 o.op=true→∀(x:Nat) ox,x<i→ops[x]?=some ox→D6 ops (E x) ox=true→A8 ox.op=false→rdK ox.op=true→nT ops i+1≤(aM ops (E6 ops.toList []) x).2→aop P noC ox.op (E x) H2=some (V x,none))→
    (∀j,j<nT ops i→(j,K j)∈Ks')→(A8 o.op=true→(nT ops i,K (nT ops i))∈Ks')→
    (∀q,q∈obs→q∈obs')→(D6 ops (E i) o=true→A8 o.op=false→rdK o.op=true→(o.op,E i,v,(aM ops (E6 ops.toList []) i).2)∈obs')→
    I0 P C ops (nT ops (i+1)) Ks' obs' ((gL ops).drop (i+1)) (P7 (E i) o.dst v) H2=some (e',H')→
    ∃E' V' K',Tr P C ops (E6 ops.toList []) ops.size E' V' K'∧E' 0=E 0∧K' 0=K 0∧E' ops.size=e'∧K' (nT ops ops.size)=H':=by
   intro v H2 Ks' obs' hc1 hc2 hc3 hc4 hc6 hc5 hk1 hk2 ho1 ho2 hr;obtain⟨E2,hE2⟩:∃E2:Nat→Env,E2=fun x=>if x≤i then E x else P7 (E i) o.dst v:=⟨_,rfl⟩
   obtain⟨V2,hV2⟩:∃V2:Nat→Value,V2=fun x=>if x=i then v else V x:=⟨_,rfl⟩
   obtain⟨K2,hK2⟩:∃K2:Nat→d9,K2=fun x=>if x≤nT ops i then K x else H2:=⟨_,rfl⟩
   have eE:∀x,x≤i→E2 x=E x:=fun x hx=>by rw[hE2];exact if_pos hx
   have eE1:E2 (i+1)=P7 (E i) o.dst v:=by rw[hE2];exact if_neg oM
   have eV:∀x,x≠i→V2 x=V x:=fun x hx=>by rw[hV2];exact if_neg hx
   have eVi:V2 i=v:=by rw[hV2];exact if_pos rfl
   have eK:∀x,x≤nT ops i→K2 x=K x:=fun x hx=>by rw[hK2];exact if_pos hx
   have eK1:A8 o.op=true→K2 (nT ops i+1)=H2:=fun _=>by rw[hK2];exact if_neg oM
   have eKn:K2 (nT ops (i+1))=H2:=by
    cases htk:A8 o.op with
    |true=>rw[hsucc,if_pos htk];exact eK1 htk
    |false=>rw[hsucc,if_neg (by simp [htk]),Nat.add_zero,eK _ lR,hc1 htk]
   have hle:∀x,x<i→nT ops x≤nT ops i:=fun x hx=>pv oM;have hlt:∀(x:Nat) ox,x<i→ops[x]?=some ox→A8 ox.op=true→nT ops x+1≤nT ops i:=fun x ox hx h1 h2=>fp h1 h2 hx;have hT2:Tr P C ops (E6 ops.toList []) (i+1) E2 V2 K2:=by
    refine⟨fun x ox hx hox=>?_,fun x ox hx hox=>?_,fun x ox hx hox hw=>?_,fun x ox hx hox hw ht=>?_,fun x ox hx hox hw ht hrd j hj hj1 hj2=>?_,fun x ox hx hox hw ht hrd H3=>?_⟩
    ·by_cases hxi:x=i
     ·subst hxi;have:ox=o:=Option.some.inj (hox.symm.trans ho);subst this;rw[eE1,eE x lR,eVi]
     ·rw[eE (x+1) oM,eE x oM,eV x hxi];exact hT.step x ox oM hox
    ·by_cases hxi:x=i
     ·subst hxi;have:ox=o:=Option.some.inj (hox.symm.trans ho);subst this;rw[eE x lR];exact hnl
     ·rw[eE x oM];exact hT.nl x ox oM hox
    ·by_cases hxi:x=i
     ·subst hxi;have:ox=o:=Option.some.inj (hox.symm.trans ho);subst this;rw[eE x lR]at hw;obtain⟨q1,q2⟩:=hc2 hw;exact⟨by rw[eVi];exact q1,fun ht=>by rw[eK1 ht,eK _ lR];exact q2⟩
     ·rw[eE x oM]at hw;obtain⟨q1,q2⟩:=hT.off x ox oM hox hw;exact⟨by rw[eV x hxi];exact q1,fun ht=>by rw[eK _ (hlt x ox oM hox ht),eK _ (hle x oM)];exact q2 ht⟩
    ·by_cases hxi:x=i
     ·subst hxi;have:ox=o:=Option.some.inj (hox.symm.trans ho);subst this;rw[eE x lR]at hw ⊢;rw[eK _ lR,eVi,eK1 ht];exact hc3 hw ht
     ·rw[eE x oM]at hw ⊢;rw[eV x hxi,eK _ (hle x oM),eK _ (hlt x ox oM hox ht)];exact hT.turn x ox oM hox hw ht
    ·by_cases hxi:x=i
     ·subst hxi;have:ox=o:=Option.some.inj (hox.symm.trans ho);subst this;rw[eE x lR]at hw ⊢;rw[hsucc,if_neg (by simp [ht]),Nat.add_zero]at hj;rw[eVi,eK j hj];exact hc4 hw ht hrd j hj hj1
     ·rw[eE x oM]at hw ⊢;rw[eV x hxi];by_cases hjl:j≤nT ops i
      ·rw[eK j hjl];exact hT.pure x ox oM hox hw ht hrd j hjl hj1 hj2
      ·cases htk:A8 o.op with
       |false=>rw[hsucc,if_neg (by simp [htk])]at hj;omega
       |true=>
        rw[hsucc,if_pos htk]at hj;have:j=nT ops i+1:=oM;subst this;rw[eK1 htk];exact hc5 htk x ox oM hox hw ht hrd hj2
    ·by_cases hxi:x=i
     ·subst hxi;have:ox=o:=Option.some.inj (hox.symm.trans ho);subst this;rw[eE x lR]at hw ⊢;rw[eVi];exact hc6 hw ht hrd H3
     ·rw[eE x oM]at hw ⊢;rw[eV x hxi];exact hT.flat x ox oM hox hw ht hrd H3
   have hr2:I0 P C ops (nT ops (i+1)) Ks' obs' ((gL ops).drop (i+1)) (E2 (i+1)) (K2 (nT ops (i+1)))=some (e',H'):=by rw[eE1,eKn];exact hr
   obtain⟨E',V',K',q1,q2,q3,q4⟩:=ih (i+1) _ Ks' obs' E2 V2 K2 oM rfl hT2 (fun j hj=>by
     by_cases hjl:j<nT ops i
     ·rw[eK j oM];exact hk1 j hjl
     ·cases htk:A8 o.op with
      |false=>rw[hsucc,if_neg (by simp [htk])]at hj;omega
      |true=>
       rw[hsucc,if_pos htk]at hj;have:j=nT ops i:=oM;subst this;rw[eK _ lR];exact hk2 htk) (fun x ox hx hox hw ht hrd=>by
     by_cases hxi:x=i
     ·subst hxi;have:ox=o:=Option.some.inj (hox.symm.trans ho);subst this;rw[eE x lR]at hw ⊢;rw[eVi];exact ho2 hw ht hrd
     ·rw[eE x oM]at hw ⊢;rw[eV x hxi];exact ho1 _ (hO x ox oM hox hw ht hrd)) hr2
   exact⟨E',V',K',q1,by rw[q2,eE 0 oM],by rw[q3,eK 0 oM],q4⟩
  cases hw:D6 ops (E i) o with
  |true=>
   rw[if_pos hw]at h;cases htk:A8 o.op with
   |true=>
    rw[if_pos htk]at h;split at h
    ·rename_i v r hop;split at h
     ·rename_i hc;refine next v (r.getD (K (nT ops i))) _ obs (fun q=>by rw[htk]at q;cases q) (fun q=>by rw[hw]at q;cases q) (fun _ _=>⟨r,hop,rfl⟩) (fun _ q=>by rw[htk]at q;cases q) (fun _ q=>by rw[htk]at q;cases q) (fun _ x ox hx hox hwx htx hrd h2=>ql hc _ _ _ _ (hO x ox hx hox hwx htx hrd) h2)
       (fun j hj=>List.mem_cons_of_mem _ (hK j hj)) (fun _=>List.mem_cons_self ..) (fun q hq=>hq) (fun _ q=>by rw[htk]at q;cases q) ?_
      rw[hsucc,if_pos htk];exact h
     ·cases h
    ·cases h
   |false=>
    rw[if_neg (by simp [htk])]at h;split at h
    ·rename_i v hop;have hn:nT ops (i+1)=nT ops i:=by rw[hsucc,if_neg (by simp [htk])];rfl
     cases hrd:rdK o.op with
     |true=>
      rw[if_pos hrd]at h;split at h
      ·rename_i hc;refine next v (K (nT ops i)) Ks ((o.op,E i,v,(aM ops (E6 ops.toList []) i).2)::obs) (fun _=>rfl) (fun q=>by rw[hw]at q;cases q) (fun _ q=>by rw[htk]at q;cases q) (fun _ _ _ j hj hj1=>?_) (fun _ _ q=>by rw[hrd]at q;cases q) (fun q=>by rw[htk]at q;cases q)
        hK (fun q=>by rw[htk]at q;cases q) (fun q hq=>List.mem_cons_of_mem _ hq) (fun _ _ _=>List.mem_cons_self ..) ?_
       ·by_cases hjl:j<nT ops i
        ·exact qk hc j _ (hK j hjl) hj1
        ·have:j=nT ops i:=oM;subst this;exact hop
       ·rw[hn];exact h
      ·cases h
     |false=>
      rw[if_neg (by simp [hrd])]at h;refine next v (K (nT ops i)) Ks obs (fun _=>rfl) (fun q=>by rw[hw]at q;cases q) (fun _ q=>by rw[htk]at q;cases q) (fun _ _ q=>by rw[hrd]at q;cases q) (fun _ _ _ H3=>by rw[sH htk hrd (H2:=K (nT ops i))];exact hop) (fun q=>by rw[htk]at q;cases q)
       hK (fun q=>by rw[htk]at q;cases q) (fun q hq=>hq) (fun _ _ q=>by rw[hrd]at q;cases q) ?_
      rw[hn];exact h
    ·cases h
  |false=>
   rw[if_neg (by simp [hw])]at h;cases htk:A8 o.op with
   |true=>
    rw[if_pos htk]at h;refine next undef (K (nT ops i)) _ obs (fun _=>rfl) (fun _=>⟨rfl,rfl⟩) (fun q=>by rw[hw]at q;cases q) (fun q=>by rw[hw]at q;cases q) (fun q=>by rw[hw]at q;cases q) (fun _ x ox hx hox hwx htx hrd h2=>?_)
     (fun j hj=>List.mem_cons_of_mem _ (hK j hj)) (fun _=>List.mem_cons_self ..) (fun q hq=>hq) (fun q=>by rw[hw]at q;cases q) ?_
    ·refine hT.pure x ox hx hox hwx htx hrd (nT ops i) lR ?_ oM;apply Classical.byContradiction;intro hn;obtain⟨c,oc,h3,h4,h5,h6⟩:=Ct (ops:=ops) (A:=E6 ops.toList []) (i:=x) (j:=nT ops i) oM;have h7:=hM.anc_lt x c ox hox (P1 h3) h6;have h8:=fp h3 h4 h7;have h9:=pv (ops:=ops) (show x≤i from oM);omega
    ·rw[hsucc,if_pos htk];exact h
   |false=>
    rw[if_neg (by simp [htk])]at h;refine next undef (K (nT ops i)) Ks obs (fun _=>rfl) (fun _=>⟨rfl,rfl⟩) (fun q=>by rw[hw]at q;cases q) (fun q=>by rw[hw]at q;cases q) (fun q=>by rw[hw]at q;cases q) (fun q=>by rw[htk]at q;cases q)
     hK (fun q=>by rw[htk]at q;cases q) (fun q hq=>hq) (fun q=>by rw[hw]at q;cases q) ?_
    rw[hsucc,if_neg (by simp [htk]),Nat.add_zero];exact h
theorem EK{e e':Env}{x:Operand}(h:∀t,x= .tmp t→e.get t=e'.get t):opv e x=opv e' x:=by
 cases x<;>first|rfl|exact h _ rfl
theorem wj{P:Program}{C:A5}{e e':Env}(o:Op)(H:d9)(h:∀x∈o.operands.toList,opv e x=opv e' x):aop P C o e H=aop P C o e' H:=by
 have mp:∀ps:Array (Nat×Operand),(∀x∈ps.toList.map (·.2),opv e x=opv e' x)→(ps.toList.map fun(i,x)=>(i,opv e x))=(ps.toList.map fun(i,x)=>(i,opv e' x)):=fun ps hp=>by
  apply List.map_congr_left;intro q hq;obtain⟨i,x⟩:=q;simp only[Prod.mk.injEq,true_and];exact hp x (List.mem_map.2 ⟨(i,x),hq,rfl⟩)
 have ma:∀ps:Array Operand,(∀x∈ps.toList,opv e x=opv e' x)→ps.toList.map (opv e)=ps.toList.map (opv e'):=fun ps hp=>List.map_congr_left hp;have mo:∀x:Option Operand,(∀y∈x.toList,opv e y=opv e' y)→x.map (opv e)=x.map (opv e'):=fun x hp=>by
  cases x with
  |none=>rfl
  |some y=>simp only[Option.map_some,Option.some.injEq];exact hp y (by simp)
 cases o
 case call c=>
  obtain⟨cal,as,ats⟩:=c;simp only[Op.operands,Call.operands,Array.toList_append,List.mem_append]at h;have ha:=ma as fun x hx=>h x (.inr hx);cases cal with
  |value f=>
   have hf:=h f (.inl (by simp));simp only[aop,dS,hf,ha]
  |builtin b=>simp only[aop,dS,ha]
  |invoke r m=>rfl
 case build t ps=>simp only[aop];rw[mp ps (fun x hx=>h x (by simpa [Op.operands] using hx))]
 case buildSlice t n ps=>simp only[aop];rw[mp ps (fun x hx=>h x (by simpa [Op.operands] using hx))]
 case makeFunc fn first captured=>
  simp only[Op.operands,Array.toList_append,List.mem_append]at h;simp only[aop];rw[ma first (fun x hx=>h x (.inl hx)),ma captured (fun x hx=>h x (.inr hx))]
 case slice t x lo hi mx=>
  simp only[Op.operands,Array.toList_append,List.mem_append,Option.toList_toArray]at h;simp only[aop];rw[h x (.inl (.inl (.inl (by simp)))),mo lo (fun y hy=>h y (.inl (.inl (.inr hy)))),mo hi (fun y hy=>h y (.inl (.inr hy))),mo mx (fun y hy=>h y (.inr hy))]
 case makeMap t r=>cases r<;>rfl
 case next it b=>
  simp only[Op.operands,List.mem_cons,List.not_mem_nil,or_false,forall_eq]at h;cases b
  ·rfl
  ·simp only[aop,h]
 all_goals first
  |rfl
  |(simp only[Op.operands,List.mem_cons,List.not_mem_nil,or_false,forall_eq_or_imp,forall_eq]at h
    simp only[aop,h])
end
section
variable{P:Program}{base:Bs}{w0:World}{φ:List Loc}{S:List Blk}{w:World}{nt:Nat}{e:Env}{a:Act}
def fk(base:Bs)(w0:World)(φ:List Loc)(H:d9)(w:World)(nt:Nat)(ds:List Deferred)(e':Env)(H':d9)(K:Act→World→Prop):Prop:=
 ∀φ' a' w',Ext φ φ'→ER φ' nt e' a'→WR base w0 φ' H'.bs w'→Fr φ H.bs H'.low w w'→a'.defers=ds→K a' w'
theorem X3{ops:Array Oper}(h:dG nt ops=true){o:Oper}(ho:o∈ops.toList):o.op.operands.toList.all C4=true∧dD nt o.dst=true:=by
 have:=List.all_eq_true.1 h o ho
 simpa only[Bool.and_eq_true] using this
theorem T1{ops:Array Oper}(h:dG nt ops=true)(j:Nat)(oj:Oper)(d:Nat)(hj:ops[j]?=some oj)(hd:oj.dst=some d):d<nt:=by
 have:=(X3 h (o:=oj) (by simpa using Array.mem_of_getElem? hj)).2;rw[hd]at this
 simpa [dD] using this
theorem U7{C:A5}{o:Oper}{H:d9}{v:Value}{r:Option d9}(hc:isCall o.op=true)(h:aop P C o.op e H=some (v,r)):
  ∃(c:Call)(f:Operand)(g:FuncId)(first captured:Array Value),o.op= .call c∧c.callee= .value f∧opv e f= .func (.func g) first captured∧C g (first.toList++c.args.toList.map (opv e)++captured.toList) H=some (v,r):=by
 obtain⟨dst,op,ty,pos,after,guard⟩:=o;simp only at h hc;cases op<;>first|(cases hc;done)|skip
 rename_i c;obtain⟨cal,as,ats⟩:=c;cases cal<;>first|(cases hc;done)|skip
 rename_i f;simp only[aop,dS]at h;split at h
 ·rename_i g first captured hf;exact⟨_,f,g,first,captured,rfl,rfl,hf,h⟩
 ·cases h
theorem gC(H:d9):Fr φ H.bs H.low w w:=fun _ _ _ _ _ _ _=>rfl
theorem eP(hE:ER φ nt e a){o:Oper}{c:Call}{f:Operand}{g:FuncId}{first captured:Array Value}(hok:o.op.operands.toList.all C4=true)(ho:o.op= .call c)(hcal:c.callee= .value f)
  (hf:opv e f= .func (.func g) first captured):∃first' captured',a.eval f= .func (.func g) first' captured'∧VRs φ (first.toList++c.args.toList.map (opv e)++captured.toList) (first'++c.args.map a.eval++captured').toList:=by
 simp only[ho,Op.operands,Call.operands,hcal,Array.toList_append,List.all_append,Bool.and_eq_true,List.all_cons,List.all_nil,Bool.and_true]at hok;have hv:=hE.op hok.1;rw[hf]at hv;generalize hz:a.eval f=z at hv;cases hv with
 |func g h1 h2 h3 h4=>
  rename_i first' captured';refine⟨first',captured',rfl,?_⟩;simp only[Array.toList_append,Array.toList_map];exact VRs.append (VRs.append ⟨h1,h2⟩ (hE.args hok.2)) ⟨h3,h4⟩
theorem N1(a:Act)(d:Option Tmp)(v:Value):(a.put d v).defers=a.defers:=by unfold Act.put;split<;>rfl
def U3(P:Program)(C:A5):Prop:=∀base w0,aB P base w0 C
theorem dX(g:Nat→Value):∀(l:List Nat)(t:Nat),Env.get (l.map fun d=>(d,g d)) t=if t∈l then g t else undef
 |[],t=>by simp [Env.get]
 |d::l,t=>by
  simp only[List.map_cons,Env.get,dX g l t,List.mem_cons];by_cases h:d=t
  ·subst h;simp
  ·rw[if_neg h];have:t≠d:=fun q=>h q.symm;simp [this]
theorem Hr{ops:Array Oper}{o:Oper}{Ei:Env}(hsel:∀cs b,o.op≠ .select cs b) (hsz:a.tmps.size=nt) (hv:∀d∈o.looksAt ops,VR φ (Ei.get d) (a.tmps.getD d undef)):
  ∃e1 a1,ER φ nt e1 a1∧(∀(C:A5) H,aop P C o.op e1 H=aop P C o.op Ei H)∧execOp a1.eval o=execOp a.eval o∧D6 ops e1 o=D6 ops Ei o∧U0 ops e1 o=U0 ops Ei o∧Region.wanted o (yielded ops a1.tmps)=Region.wanted o (yielded ops a.tmps):=by
 obtain⟨a1,ha1⟩:∃a1:Act,a1=⟨Array.ofFn (n:=nt) fun t=>if t.1∈o.looksAt ops then a.tmps.getD t.1 undef else undef,a.defers⟩:=⟨_,rfl⟩
 have hs1:a1.tmps.size=nt:=by rw[ha1];simp
 have hget:∀(t:Nat),t∈o.looksAt ops→a1.tmps[t]?=a.tmps[t]?:=fun t ht=>by
  by_cases hlt:t<nt
  ·rw[ha1,Array.getElem?_ofFn,dif_pos hlt];simp only[if_pos ht];have:t<a.tmps.size:=oM;simp [this]
  ·rw[Array.getElem?_eq_none oM,Array.getElem?_eq_none oM]
 have hno:∀(t:Nat),t∉o.looksAt ops→a1.tmps.getD t undef=undef:=fun t ht=>by
  rw[Array.getD_eq_getD_getElem?,ha1,Array.getElem?_ofFn];split
  ·simp [ht]
  ·rfl
 have hyes:∀(t:Nat),t∈o.looksAt ops→a1.tmps.getD t undef=a.tmps.getD t undef:=fun t ht=>by
  rw[Array.getD_eq_getD_getElem?,Array.getD_eq_getD_getElem?,hget t ht]
 have hop:∀x∈o.op.operands.toList,∀t,x= .tmp t→t∈o.looksAt ops:=fun x hx t hxt=>by
  subst hxt;exact List.mem_append_left _ (List.mem_filterMap.2 ⟨.tmp t,hx,rfl⟩)
 refine⟨(o.looksAt ops).map fun d=>(d,Ei.get d),a1,⟨hs1,fun t=>?_⟩,fun C H=>wj o.op H fun x hx=>EK fun t hxt=>?_,execOp_congr o hsel fun x hx=>?_,?_,?_,?_⟩
 ·rw[dX];by_cases ht:t∈o.looksAt ops
  ·rw[if_pos ht,hyes t ht];exact hv t ht
  ·rw[if_neg ht,hno t ht];exact VR.undef' φ
 ·rw[dX,if_pos (hop x hx t hxt)]
 ·cases x with
  |tmp t=>exact hyes t (hop _ (by simpa using hx) t rfl)
  |_=>rfl
 ·unfold D6;cases hg:o.guard with
  |none=>rfl
  |some q=>
   obtain⟨j,b⟩:=q;simp only;cases hd:(ops[j]?).bind (·.dst)with
   |none=>rfl
   |some d=>
    have:d∈o.looksAt ops:=by
     refine List.mem_append_right _ ?_;simp [hg,hd]
    simp only[dX,if_pos this]
 ·unfold U0;cases hg:o.guard with
  |none=>rfl
  |some q=>
   obtain⟨j,b⟩:=q;simp only;cases hd:(ops[j]?).bind (·.dst)with
   |none=>rfl
   |some d=>
    have:d∈o.looksAt ops:=by
     refine List.mem_append_right _ ?_;simp [hg,hd]
    simp only[dX,if_pos this]
 ·unfold Region.wanted;cases hg:o.guard with
  |none=>rfl
  |some q=>
   obtain⟨j,b⟩:=q;simp only[yielded];cases hd:(ops[j]?).bind (·.dst)with
   |none=>rfl
   |some d=>
    have:d∈o.looksAt ops:=by
     refine List.mem_append_right _ ?_;simp [hg,hd]
    simp only[Option.bind_some,hget d this]
def Bs.add(base:Bs)(Q:Nat→Prop):Bs:=⟨base.ro,fun k=>base.pr k∨Q k,fun k h=> .inl (base.sub k h)⟩
theorem BR.raise{B:Blk}{l:Loc}{Q:Nat→Prop}(h:BR base φ B l w)(hm:B.mine=true→¬Q l.blk):BR (base.add Q) φ B l w:=by
 cases B with
 |dead=>trivial
 |cells c own sz=>
  obtain⟨h0,h1,h2,h3,h4⟩:=h;refine⟨h0,h1,h2,h3,fun ho=>?_⟩;obtain⟨k1,k2⟩:=h4 ho;exact⟨fun q=>q.elim k1 (hm (by simpa [Blk.mine] using ho)),k2⟩
 |map es=>exact⟨fun q=>q.elim h.1 (hm rfl),h.2⟩
 |iter s p=>exact⟨fun q=>q.elim h.1 (hm rfl),h.2⟩
theorem BR.lower{B:Blk}{l:Loc}{Q:Nat→Prop}(h:BR (base.add Q) φ B l w):BR base φ B l w:=by
 cases B with
 |dead=>trivial
 |cells c own sz=>
  obtain⟨h0,h1,h2,h3,h4⟩:=h;refine⟨h0,h1,h2,h3,fun ho=>?_⟩;obtain⟨k1,k2⟩:=h4 ho;exact⟨fun q=>k1 (.inl q),k2⟩
 |map es=>exact⟨fun q=>h.1 (.inl q),h.2⟩
 |iter s p=>exact⟨fun q=>h.1 (.inl q),h.2⟩
theorem WR.raise(h:WR base w0 φ S w)(Q:Nat→Prop)(hq:∀k,Q k→k<w.heap.size) (hs:∀(b:Nat) B l,S[b]?=some B→B.mine=true→φ[b]?=some l→¬Q l.blk):WR (base.add Q) w φ S w:=
 ⟨h.len,Bel.refl _ _,fun k hk=>hk.elim (h.size k) (hq k),fun b B l hB hl=>(h.blk b B l hB hl).raise fun hm=>hs b B l hB hm hl,h.sep⟩
theorem WR.lower{φ':List Loc}{S':List Blk}{w':World}{Q:Nat→Prop}(h:WR (base.add Q) w φ' S' w')(h0:Bel base.pr w0 w):WR base w0 φ' S' w':=
 ⟨h.len,⟨h.below.os.trans h0.os,h.below.tape.trans h0.tape,h.below.output.trans h0.output,Nat.le_trans h0.size h.below.size,fun k hk=>(h.below.block k (.inl hk)).trans (h0.block k hk)⟩,
  fun k hk=>h.size k (.inl hk),fun b B l hB hl=>(h.blk b B l hB hl).lower,h.sep⟩
theorem WR.grow{w':World}(h:WR base w0 φ S w)(hb:But w w' none)(hbel:Bel base.pr w0 w'):WR base w0 φ S w':=by
 refine⟨h.len,hbel,fun k hk=>Nat.lt_of_lt_of_le (h.size k hk) hb.1,fun b B l hB hl=>?_,h.sep⟩;have hbr:=h.blk b B l hB hl;by_cases hm:B.mine=true
 ·exact hbr.mono (Ext.refl φ) (hb.2 _ (hbr.lt hm).2 (by simp))
 ·cases B with
  |dead=>trivial
  |cells c own sz=>
   have:own=false:=by simpa [Blk.mine] using hm
   subst this;exact hbr.mono (Ext.refl φ) (hb.2 _ (h.size _ hbr.below) (by simp))
  |map es=>exact absurd rfl hm
  |iter s p=>exact absurd rfl hm
theorem WR.snoc{B:Blk}{l:Loc}(h:WR base w0 φ S w)(hB:BR base (φ++[l]) B l w)(hs:∀(b:Nat) B' l',S[b]?=some B'→B'.mine=true→φ[b]?=some l'→l'.blk≠l.blk):WR base w0 (φ++[l]) (S++[B]) w:=by
 have key:∀(b:Nat) B' l',(S++[B])[b]?=some B'→(φ++[l])[b]?=some l'→(S[b]?=some B'∧φ[b]?=some l')∨(b=S.length∧B'=B∧l'=l):=by
  intro b B' l' hb hl;by_cases hlt:b<S.length
  ·rw[List.getElem?_append_left hlt]at hb;rw[List.getElem?_append_left (by rw[h.len];exact hlt)]at hl;exact .inl ⟨hb,hl⟩
  ·rw[List.getElem?_append_right oM]at hb;rw[List.getElem?_append_right (by rw[h.len];omega),h.len]at hl;have h0:b-S.length=0:=by
    have:=(List.getElem?_eq_some_iff.1 hb).1;simp at this;omega
   rw[h0]at hb hl;simp at hb hl;exact .inr ⟨oM,hb.symm,hl.symm⟩
 refine⟨by simp [h.len],h.below,h.size,fun b B' l' hb hl=>?_,fun b b' B1 B2 l1 l2 hne p1 p2 m1 m2 q1 q2=>?_⟩
 ·rcases key b B' l' hb hl with⟨h1,h2⟩|⟨_,rfl,rfl⟩
  ·exact(h.blk b B' l' h1 h2).mono (Ext.snoc φ l) rfl
  ·exact hB
 ·rcases key b B1 l1 p1 q1 with⟨h1,h2⟩|⟨h0,rfl,rfl⟩<;>rcases key b' B2 l2 p2 q2 with⟨h3,h4⟩|⟨h5,rfl,rfl⟩
  ·exact h.sep b b' B1 B2 l1 l2 hne h1 h3 m1 m2 h2 h4
  ·exact hs b B1 l1 h1 m1 h2
  ·exact fun q=>hs b' B2 l2 h3 m2 h4 q.symm
  ·omega
theorem No{c xs:LV}{ty:TypeId}{sz:Nat}(hs:∀k,base.pr k→k<w.heap.size) (hx:VRs φ c xs) (hone:∀x∈c,x.oneCell'=true):
  BR base φ (.cells c true sz) ⟨w.heap.size,0,xs.length,sz⟩ (w.alloc (.cells xs.toArray ty)):=by
 have hnew:(w.alloc (.cells xs.toArray ty)).heap[w.heap.size]?=some (.cells xs.toArray ty):=heap_alloc_new w _;refine⟨rfl,hone,fun i x hi=>?_,(by intro hf;cases hf),fun _=>⟨cG hs,by show c.length≤xs.length;rw[hx.1];exact lR,_,ty,(0,0),hnew,by simp,fun i hi=>?_⟩⟩
 ·obtain⟨y,hy,hv⟩:=hx.get hi;refine⟨y,?_,hv⟩;unfold World.cell?;simp only[hnew,Option.isSome_none,Bool.false_eq_true,if_false,Nat.zero_add];simp [hy]
 ·unfold World.frozen?;simp only[hnew];simp
theorem tB{C:A5}{o:Oper}{H:d9}{v:Value}{r:Option d9}(hW:WR base w0 φ S w)(hE:ER φ nt e a)(hok:o.op.operands.toList.all C4=true)(hf:Y2 o.op=true)(h:aop P C o.op e H=some (v,r)):
  ∃(B:Blk)(mk:Nat→Value)(v':Value)(w1:World)(l:Loc),B.mine=true∧r=some (H.push B)∧v=mk H.next∧(execOp a.eval o).run P w= .ok (.value v') w1∧l.blk=w.heap.size∧But w w1 none∧Bel base.pr w0 w1∧BR base φ B l w1∧(∀(k:Nat)(o':Obj),w.heap[k]?=some o'→w1.heap[k]?=some o')∧∀(φ2:List Loc)(b:Nat),φ2[b]?=some l→VR φ2 (mk b) v':=by
 have fin:∀{s:Sem Value}{c xs:LV}{ty:TypeId}{sz:Nat}{v':Value}(mk:Nat→Value),VRs φ c xs→(∀x∈c,x.oneCell'=true)→s.run P w= .ok v' (w.alloc (.cells xs.toArray ty))→execOp a.eval o=(do pure (.value (←s)))→r=some (H.push (.cells c true sz))→v=mk H.next→
   (∀(φ2:List Loc)(b:Nat),φ2[b]?=some ⟨w.heap.size,0,xs.length,sz⟩→VR φ2 (mk b) v')→
   ∃(B:Blk)(mk:Nat→Value)(v':Value)(w1:World)(l:Loc),B.mine=true∧r=some (H.push B)∧v=mk H.next∧(execOp a.eval o).run P w= .ok (.value v') w1∧l.blk=w.heap.size∧But w w1 none∧Bel base.pr w0 w1∧BR base φ B l w1∧(∀(k:Nat)(o':Obj),w.heap[k]?=some o'→w1.heap[k]?=some o')∧∀(φ2:List Loc)(b:Nat),φ2[b]?=some l→VR φ2 (mk b) v':=by
  intro s c xs ty sz v' mk hx hone hrun hex hr hv hmk;refine⟨.cells c true sz,mk,v',w.alloc (.cells xs.toArray ty),⟨w.heap.size,0,xs.length,sz⟩,rfl,hr,hv,by rw[hex];simp only[Sem.run_bind,hrun,Result.andThen_ok,Sem.run_pure],rfl,⟨by simp,fun j hj _=>Below.heap_alloc _ _ _ hj⟩,hW.below.alloc hW.size _,No hW.size hx hone,fun k o' hk=>?_,hmk⟩;rw[Below.heap_alloc _ _ _ (Array.getElem?_eq_some_iff.1 hk).1];exact hk
 obtain⟨dst,op,ty,pos,after,guard⟩:=o;simp only at h hf hok;cases op<;>first|(cases hf;done)|skip
 case alloc t=>
  simp only[aop]at h;obtain⟨H',h1,h2⟩:=C1 h;simp only[Option.map_eq_some_iff,Prod.mk.injEq]at h1;obtain⟨z,hz,h3,h4⟩:=h1;obtain⟨zv,k1,k2,k3,k4⟩:=bj hz w;subst k2;refine fin (s:=Instr.alloc t true (.tuple #[])) (c:=zv.cells.toList) (xs:=zv.cells.toList) (ty:=t) (sz:=1) (v':= .pointer (some ⟨w.heap.size,0,none⟩)) (fun b=> .pointer (some ⟨b,0,none⟩)) (VRs.na0 k3) (gP k3) ?_ rfl (by rw[h2,←h4]) h3.symm (fun φ2 b hb=>VR.ptr (o:=0) hb);simp only[Instr.alloc,Sem.run_bind,k1,Result.andThen_ok,newVar,newRow,newObj,Sem.run,Sem.run_pure,List.append_nil,Array.toArray_toList];rfl
 case buildSlice t len ps=>
  simp only[aop]at h;simp only[Op.operands]at hok;obtain⟨H',h1,h2⟩:=C1 h;have hp:=hE.parts (xs:=ps) (by simpa using hok);unfold O9 at h1;split at h1
  rotate_left
  ·cases h1
  rename_i e2 he;have hu:=V7 he;split at h1
  rotate_left
  ·cases h1
  rename_i z hz;split at h1
  ·cases h1
  rename_i hb;split at h1
  rotate_left
  ·cases h1
  rename_i cs hcs;cases h1;obtain⟨zv,k1,k2,k3,k4⟩:=bj hz w;subst k2;have hz0:zv.cells.toList.length≠0:=fun h=>hb (.inl h);obtain⟨cs',e1,e3⟩:=cZ hcs (φ:=φ) (cs':=(List.replicate len zv.cells.toList).flatten) (VRs.na0 (by
   simp only[List.all_flatten,List.all_replicate];simp [k3])) hp
  refine fin (s:=Instr.buildSlice t len ((ps.toList.map fun(i,x)=>(i,a.eval x)).toArray)) (c:=cs) (xs:=cs') (ty:=e2) (sz:=zv.cells.toList.length) (v':= .slice (some ⟨w.heap.size,0,none⟩) len len) (fun b=> .slice (some ⟨b,0,none⟩) len len) e3 (qA hcs (gP (by simp only[List.all_flatten,List.all_replicate];simp [k3])) (fun p hp=>by
    have:=(Bool.not_eq_false _).mp (fun h=>hb (.inr (.inr h)));exact fun x hx=>List.all_eq_true.1 (List.all_eq_true.1 this p hp) x hx)) ?_ ?_ h2 rfl (fun φ2 b hb=>VR.exact (o:=0) hb)
  ·have hrange:(Array.range (len*zv.cells.toList.length)).map (fun i=>zv.cells[i % zv.cells.size]!)=(List.replicate len zv.cells.toList).flatten.toArray:=by
    apply Array.toList_inj.1;rw[←Nx zv.cells.toList len hz0];simp
   have c1:¬len*zv.cells.toList.length>2 ^ 24:=oM;by_cases hl0:len*zv.cells.toList.length=0
   ·have:len=0:=by
     rcases Nat.mul_eq_zero.1 hl0 with h|h
     ·exact h
     ·exact absurd h hz0
    subst this;simp only[List.replicate_zero,List.flatten_nil]at e1;simp only[Instr.buildSlice,Sem.run_bind,run_underlying hu,Result.andThen_ok,B9 k4,if_neg c1,hl0,if_true,Sem.run_pure];simp only[Array.range_zero',Array.map_empty,e1,Sem.run_bind,newRow,newObj,Sem.run,Sem.run_pure,Result.andThen_ok];rfl
   ·simp only[Instr.buildSlice,Sem.run_bind,run_underlying hu,Result.andThen_ok,B9 k4,if_neg c1,if_neg hl0,k1,Sem.run_pure,hrange,e1,newRow,newObj,Sem.run];rfl
  ·have hps:(ps.map fun(i,x)=>(i,a.eval x))=((ps.toList.map fun(i,x)=>(i,a.eval x)).toArray):=by apply Array.toList_inj.1;simp
   simp only[execOp,hps]
theorem fO(e:Env)(d:Nat)(v:Value):P7 e (some d) v=(d,v)::e:=rfl
structure Rig(P:Program)(C:A5)(ops:Array Oper)(E:Nat→Env)(V:Nat→Value)(K:Nat→d9)(nt:Nat):Prop where
 mix:ml ops (E6 ops.toList [])
 tr:Tr P C ops (E6 ops.toList []) ops.size E V K
 okc:U3 P C
 okn:dG nt ops=true
structure St(ops:Array Oper)(base:Bs)(w0:World)(V:Nat→Value)(K:Nat→d9)(e0:Env)(φ0:List Loc)(H0:d9)(ws:World)(nt:Nat)(ds:List Deferred)(m:Nat)(φ:List Loc)(L:Nat→Loc)(D:Nat→Prop)(a:Act)(w:World):Prop where
 closed:∀(i:Nat) o,ops[i]?=some o→D i→∀d∈R1 o,D d
 mle:m≤nT ops ops.size
 low:∀(i:Nat) o,ops[i]?=some o→A8 o.op=true→nT ops i<m→D i
 high:∀(i:Nat) o,ops[i]?=some o→A8 o.op=true→m≤nT ops i→D i→Y2 o.op=true
 ext:Ext φ0 φ
 le:Le H0 (K m)
 wr:WR base w0 φ (K m).bs w
 fr:Fr φ0 H0.bs (K m).low ws w
 tsz:a.tmps.size=nt
 dfr:a.defers=ds
 t0:∀(t:Nat),(∀(i:Nat) o,ops[i]?=some o→D i→o.dst≠some t)→VR φ (e0.get t) (a.tmps.getD t undef)
 t1:∀(i:Nat) o(d:Nat),ops[i]?=some o→D i→o.dst=some d→(A8 o.op=true→nT ops i<m)→VR φ (V i) (a.tmps.getD d undef)
 pend:∀(i:Nat) o(d:Nat),ops[i]?=some o→D i→A8 o.op=true→m≤nT ops i→o.dst=some d→∃(B:Blk)(mk:Nat→Value),B.mine=true∧K (nT ops i+1)=(K (nT ops i)).push B∧V i=mk (K (nT ops i)).next∧BR base φ B (L i) w∧(∀(φ2:List Loc)(b:Nat),φ2[b]?=some (L i)→VR φ2 (mk b) (a.tmps.getD d undef))∧∀(b:Nat) B' l',(K m).bs[b]?=some B'→B'.mine=true→φ[b]?=some l'→l'.blk≠(L i).blk
 sep:∀(i j:Nat) oi oj,ops[i]?=some oi→ops[j]?=some oj→D i→D j→A8 oi.op=true→A8 oj.op=true→m≤nT ops i→m≤nT ops j→i≠j→(L i).blk≠(L j).blk
section
variable{C:A5}{ops:Array Oper}{E:Nat→Env}{V:Nat→Value}{K:Nat→d9}{e0:Env}{φ0:List Loc}{H0:d9}{ws:World}{ds:List Deferred}{m:Nat}{L:Nat→Loc}{D:Nat→Prop}
theorem St.absorb(hM:ml ops (E6 ops.toList []))(h:St ops base w0 V K e0 φ0 H0 ws nt ds m φ L D a w){i:Nat}{o:Oper}(ho:ops[i]?=some o)(ht:A8 o.op=true)(hn:nT ops i=m)(hD:D i):St ops base w0 V K e0 φ0 H0 ws nt ds (m+1) (φ++[L i]) L D a w:=by
 have hf:=h.high i o ho ht oM hD;obtain⟨_,d,hd⟩:=hM.free i o ho hf;obtain⟨B,mk,hm,hK,hV,hB,hmk,hs⟩:=h.pend i o d ho hD ht oM hd;rw[hn]at hK hV;have hx:=Ext.snoc φ (L i);have hlt:=fp ho ht (P1 ho);refine⟨h.closed,oM,fun j oj hj tj hlt=>?_,fun j oj hj tj hle=>h.high j oj hj tj oM,h.ext.trans hx,by rw[hK];exact h.le.trans (Le.push _ _),?_,by rw[hK];exact h.fr,h.tsz,h.dfr,fun t q=>(h.t0 t q).mono hx,fun j oj dj hj hDj hdj hlt=>?_,fun j oj dj hj hDj tj hle hdj=>?_,fun j k oj ok hj hk hDj hDk tj tk h1 h2=>h.sep j k oj ok hj hk hDj hDk tj tk oM oM⟩
 ·by_cases hjm:nT ops j<m
  ·exact h.low j oj hj tj hjm
  ·have:j=i:=pu hj ho tj ht oM;rw[this];exact hD
 ·rw[hK];exact h.wr.snoc (hB.mono hx rfl) (fun b B' l' h1 h2 h3=>hs b B' l' h1 h2 h3)
 ·by_cases hji:j=i
  ·subst hji;have:oj=o:=Option.some.inj (hj.symm.trans ho);subst this;have:dj=d:=Option.some.inj (hdj.symm.trans hd);subst this;rw[hV];exact hmk _ _ (O8 h.wr)
  ·refine(h.t1 j oj dj hj hDj hdj fun tj=>?_).mono hx;have:=hlt tj;by_cases hjm:nT ops j=m
   ·exact absurd (pu hj ho tj ht oM) hji
   ·omega
 ·obtain⟨B2,mk2,q1,q2,q3,q4,q5,q6⟩:=h.pend j oj dj hj hDj tj oM hdj;refine⟨B2,mk2,q1,q2,q3,q4.mono hx rfl,q5,fun b B' l' h1 h2 h3=>?_⟩;rw[hK]at h1;simp only[d9.push]at h1;by_cases hb:b<(K m).bs.length
  ·rw[List.getElem?_append_left hb]at h1;rw[List.getElem?_append_left (by rw[h.wr.len];exact hb)]at h3;exact q6 b B' l' h1 h2 h3
  ·have hb2:=(List.getElem?_eq_some_iff.1 h1).1;rw[List.length_append,List.length_cons,List.length_nil]at hb2;have:b=(K m).bs.length:=oM;subst this;rw[O8 h.wr]at h3;cases h3;exact h.sep i j o oj ho hj hD hDj ht tj oM oM (fun q=>by subst q;omega)
theorem St.norm(hM:ml ops (E6 ops.toList [])):∀(g m:Nat)(φ:List Loc),g+m=nT ops ops.size→St ops base w0 V K e0 φ0 H0 ws nt ds m φ L D a w→∃m' φ',St ops base w0 V K e0 φ0 H0 ws nt ds m' φ' L D a w∧∀(i:Nat) o,ops[i]?=some o→A8 o.op=true→nT ops i=m'→¬D i:=by
 intro g;induction g with
 |zero=>
  intro m φ hg h;refine⟨m,φ,h,fun i o ho ht hn=>?_⟩;have:=fp ho ht (P1 ho);omega
 |succ g ih=>
  intro m φ hg h;by_cases hex:∃(i:Nat)(o:Oper),ops[i]?=some o∧A8 o.op=true∧nT ops i=m∧D i
  ·obtain⟨i,o,ho,ht,hn,hD⟩:=hex;exact ih (m+1) _ oM (h.absorb hM ho ht hn hD)
  ·exact⟨m,φ,h,fun i o ho ht hn hD=>hex ⟨i,o,ho,ht,hn,hD⟩⟩
theorem Fs(hR:Rig P C ops E V K nt):∀(i k:Nat) ok(d:Nat),k<i→i≤ops.size→ops[k]?=some ok→ok.dst=some d→(E i).get d=V k:=by
 intro i;induction i with
 |zero=>intro k ok d hk;omega
 |succ i ih=>
  intro k ok d hk hi hok hd;have hoi:ops[i]?=some ops[i]:=Array.getElem?_eq_getElem oM;rw[hR.tr.step i _ oM hoi];by_cases hki:k=i
  ·subst hki;have:ok=ops[k]:=Option.some.inj (hok.symm.trans hoi);rw[←this,hd,fO,Env.get,if_pos rfl]
  ·have hdi:ops[i].dst≠some d:=fun q=>hki (hR.mix.dst k i _ _ d hok hoi hd q);have:=ih k ok d oM oM hok hd;cases hdd:ops[i].dst with
   |none=>exact this
   |some d2=>rw[fO,Env.get,if_neg (fun q=>hdi (by rw[hdd,q]))];exact this
theorem sq(hR:Rig P C ops E V K nt):∀(i:Nat)(d:Nat),i≤ops.size→(∀(k:Nat) ok,k<i→ops[k]?=some ok→ok.dst≠some d)→(E i).get d=(E 0).get d:=by
 intro i;induction i with
 |zero=>intro d _ _;rfl
 |succ i ih=>
  intro d hi hno;have hoi:ops[i]?=some ops[i]:=Array.getElem?_eq_getElem oM;rw[hR.tr.step i _ oM hoi];have:=ih d oM fun k ok hk=>hno k ok oM;have hdi:=hno i _ oM hoi;cases hdd:ops[i].dst with
  |none=>exact this
  |some d2=>rw[fO,Env.get,if_neg (fun q=>hdi (by rw[hdd,q]))];exact this
theorem St.reads(hR:Rig P C ops E V K nt)(h0:E 0=e0)(h:St ops base w0 V K e0 φ0 H0 ws nt ds m φ L D a w){i:Nat}{o:Oper}(ho:ops[i]?=some o)(hni:¬D i)(hdeps:∀d∈R1 o,D d) (hord:A8 o.op=true→Y2 o.op=false→nT ops i=m):
  ∀d∈o.looksAt ops,VR φ ((E i).get d) (a.tmps.getD d undef):=by
 intro d hd;have hM:=hR.mix;by_cases hex:∃(k:Nat)(ok:Oper),ops[k]?=some ok∧ok.dst=some d
 ·obtain⟨k,ok,hk,hdk⟩:=hex;rcases hM.look i k o ok d ho hk hdk hd with⟨hki,hanc⟩|⟨hik,hanc⟩
  ·have hDk:D k:=hM.done h.closed i k o ho (P1 hk) hdeps hanc;rw[Fs hR i k ok d hki (Nat.le_of_lt (P1 ho)) hk hdk];refine h.t1 k ok d hk hDk hdk fun tk=>?_;cases hfk:Y2 ok.op with
   |true=>
    rcases hM.flo i k o ok d ho hk hfk hdk with⟨t1,f1⟩|hno
    ·rw[←hord t1 f1];exact fp hk tk hki
    ·exact absurd hd hno
   |false=>
    apply Classical.byContradiction;intro hge;have:=h.high k ok hk tk oM hDk;rw[hfk]at this;cases this
  ·have hnk:¬D k:=fun q=>hni (hM.done h.closed k i ok hk (P1 ho) (h.closed k ok hk q) hanc);rw[sq hR i d (Nat.le_of_lt (P1 ho)) (fun k' ok' hk' hok' hd'=>by have:=hM.dst k k' ok ok' d hk hok' hdk hd';omega),h0];exact h.t0 d fun j oj hj hDj hdj=>hnk ((hM.dst k j ok oj d hk hj hdk hdj)▸hDj)
 ·rw[sq hR i d (Nat.le_of_lt (P1 ho)) (fun k ok _ hk hd'=>hex ⟨k,ok,hk,hd'⟩),h0];exact h.t0 d fun j oj hj _ hdj=>hex ⟨j,oj,hj,hdj⟩
theorem U5(a:Act){d:Option Nat}(hd:dD a.tmps.size d=true)(v:Value)(t:Nat):(a.put d v).tmps.getD t undef=if d=some t then v else a.tmps.getD t undef:=by
 cases d with
 |none=>rfl
 |some d=>
  simp only[dD,decide_eq_true_eq]at hd;simp only[Act.put];by_cases hdt:d=t
  ·subst hdt;rw[if_pos rfl];simp only[Array.getD_eq_getD_getElem?,Array.getElem?_setIfInBounds,if_true,hd,Option.getD_some]
  ·rw[if_neg (fun q=>hdt (Option.some.inj q))];simp only[Array.getD_eq_getD_getElem?,Array.getElem?_setIfInBounds,if_neg hdt]
theorem lJ(a:Act)(d:Option Nat)(v:Value):(a.put d v).tmps.size=a.tmps.size:=by
 cases d with
 |none=>rfl
 |some d=>simp [Act.put]
theorem St.pure(hR:Rig P C ops E V K nt)(h:St ops base w0 V K e0 φ0 H0 ws nt ds m φ L D a w){i:Nat}{o:Oper}(ho:ops[i]?=some o)(hni:¬D i)(hdeps:∀d∈R1 o,D d) (ht:A8 o.op=false) {v':Value} (hv:VR φ (V i) v'):
  St ops base w0 V K e0 φ0 H0 ws nt ds m φ L (fun x=>D x∨x=i) (a.put o.dst v') w:=by
 have hM:=hR.mix;have hdst:dD a.tmps.size o.dst=true:=by rw[h.tsz];exact(X3 hR.okn (by simpa using Array.mem_of_getElem? ho)).2
 have hne:∀(j:Nat) oj(d:Nat),ops[j]?=some oj→D j→oj.dst=some d→o.dst≠some d:=fun j oj d hj hDj hd q=>hni ((hM.dst j i oj o d hj ho hd q)▸hDj);refine⟨fun j oj hj hDj d hd=>?_,h.mle,fun j oj hj tj hlt=> .inl (h.low j oj hj tj hlt),fun j oj hj tj hle hDj=>?_,h.ext,h.le,h.wr,h.fr,by rw[lJ];exact h.tsz,by rw[N1];exact h.dfr,fun t q=>?_,fun j oj d hj hDj hd hlt=>?_,fun j oj d hj hDj tj hle hd=>?_,fun j k oj ok hj hk hDj hDk tj tk h1 h2 hne=>?_⟩
 ·rcases hDj with hDj|rfl
  ·exact .inl (h.closed j oj hj hDj d hd)
  ·have:oj=o:=Option.some.inj (hj.symm.trans ho);subst this;exact .inl (hdeps d hd)
 ·rcases hDj with hDj|rfl
  ·exact h.high j oj hj tj hle hDj
  ·have:oj=o:=Option.some.inj (hj.symm.trans ho);subst this;rw[ht]at tj;cases tj
 ·rw[U5 a hdst,if_neg (q i o ho (.inr rfl))];exact h.t0 t fun j oj hj hDj=>q j oj hj (.inl hDj)
 ·rcases hDj with hDj|rfl
  ·rw[U5 a hdst,if_neg (hne j oj d hj hDj hd)];exact h.t1 j oj d hj hDj hd hlt
  ·have:oj=o:=Option.some.inj (hj.symm.trans ho);subst this;rw[U5 a hdst,if_pos hd];exact hv
 ·rcases hDj with hDj|rfl
  ·rw[U5 a hdst,if_neg (hne j oj d hj hDj hd)];exact h.pend j oj d hj hDj tj hle hd
  ·have:oj=o:=Option.some.inj (hj.symm.trans ho);subst this;rw[ht]at tj;cases tj
 ·rcases hDj with hDj|rfl
  ·rcases hDk with hDk|rfl
   ·exact h.sep j k oj ok hj hk hDj hDk tj tk h1 h2 hne
   ·have:ok=o:=Option.some.inj (hk.symm.trans ho);subst this;rw[ht]at tk;cases tk
  ·have:oj=o:=Option.some.inj (hj.symm.trans ho);subst this;rw[ht]at tj;cases tj
def uU(ops:Array Oper)(m:Nat)(L:Nat→Loc)(D:Nat→Prop)(k:Nat):Prop:=∃(j:Nat)(oj:Oper),ops[j]?=some oj∧D j∧A8 oj.op=true∧m≤nT ops j∧(L j).blk=k
theorem St.aside(hM:ml ops (E6 ops.toList []))(h:St ops base w0 V K e0 φ0 H0 ws nt ds m φ L D a w):WR (base.add (uU ops m L D)) w φ (K m).bs w:=by
 have key:∀(j:Nat) oj,ops[j]?=some oj→D j→A8 oj.op=true→m≤nT ops j→(L j).blk<w.heap.size∧∀(b:Nat) B' l',(K m).bs[b]?=some B'→B'.mine=true→φ[b]?=some l'→l'.blk≠(L j).blk:=by
  intro j oj hj hDj tj hle;obtain⟨_,d,hd⟩:=hM.free j oj hj (h.high j oj hj tj hle hDj);obtain⟨B,mk,q1,_,_,q4,_,q6⟩:=h.pend j oj d hj hDj tj hle hd;exact⟨(q4.lt q1).2,q6⟩
 refine h.wr.raise _ (fun k hk=>?_) (fun b B l hB hm hl hq=>?_)
 ·obtain⟨j,oj,hj,hDj,tj,hle,rfl⟩:=hk;exact(key j oj hj hDj tj hle).1
 ·obtain⟨j,oj,hj,hDj,tj,hle,hbk⟩:=hq;exact(key j oj hj hDj tj hle).2 b B l hB hm hl hbk.symm
theorem St.turn(h:St ops base w0 V K e0 φ0 H0 ws nt ds m φ L D a w)(hR:Rig P C ops E V K nt)(hφ:φ0.length=H0.bs.length){i:Nat}{o:Oper}(ho:ops[i]?=some o)(hni:¬D i)(hdeps:∀d∈R1 o,D d) (ht:A8 o.op=true) (hn:nT ops i=m) {v':Value} {φ':List Loc} {w':World}
  (hx:Ext φ φ') (hle:Le (K m) (K (m+1))) (hv:VR φ' (V i) v') (hW:WR (base.add (uU ops m L D)) w φ' (K (m+1)).bs w') (hfr:Fr φ (K m).bs (K (m+1)).low w w'):
  St ops base w0 V K e0 φ0 H0 ws nt ds (m+1) φ' L (fun x=>D x∨x=i) (a.put o.dst v') w':=by
 have hM:=hR.mix;have hdst:dD a.tmps.size o.dst=true:=by rw[h.tsz];exact(X3 hR.okn (by simpa using Array.mem_of_getElem? ho)).2
 have hne:∀(j:Nat) oj(d:Nat),ops[j]?=some oj→D j→oj.dst=some d→o.dst≠some d:=fun j oj d hj hDj hd q=>hni ((hM.dst j i oj o d hj ho hd q)▸hDj);have hlti:=fp ho ht (P1 ho);have old:∀(j:Nat) oj,ops[j]?=some oj→(D j∨j=i)→A8 oj.op=true→m+1≤nT ops j→D j:=fun j oj hj hDj tj hle=>by
  rcases hDj with hDj|rfl
  ·exact hDj
  ·omega
 refine⟨fun j oj hj hDj d hd=>?_,oM,fun j oj hj tj hlt=>?_,fun j oj hj tj hle hDj=>h.high j oj hj tj oM (old j oj hj hDj tj hle),h.ext.trans hx,h.le.trans hle,hW.lower h.wr.below,?_,by rw[lJ];exact h.tsz,by rw[N1];exact h.dfr,fun t q=>?_,fun j oj d hj hDj hd hlt=>?_,fun j oj d hj hDj tj hle hd=>?_,fun j k oj ok hj hk hDj hDk tj tk h1 h2=>h.sep j k oj ok hj hk (old j oj hj hDj tj h1) (old k ok hk hDk tk h2) tj tk oM oM⟩
 ·rcases hDj with hDj|rfl
  ·exact .inl (h.closed j oj hj hDj d hd)
  ·have:oj=o:=Option.some.inj (hj.symm.trans ho);subst this;exact .inl (hdeps d hd)
 ·by_cases hjm:nT ops j<m
  ·exact .inl (h.low j oj hj tj hjm)
  ·exact .inr (pu hj ho tj ht oM)
 ·exact Fr.trans h.ext h.le hle hφ h.fr hfr
 ·rw[U5 a hdst,if_neg (q i o ho (.inr rfl))];exact(h.t0 t fun j oj hj hDj=>q j oj hj (.inl hDj)).mono hx
 ·rcases hDj with hDj|rfl
  ·rw[U5 a hdst,if_neg (hne j oj d hj hDj hd)];refine(h.t1 j oj d hj hDj hd fun tj=>?_).mono hx;have:=hlt tj;by_cases hjm:nT ops j=m
   ·exact absurd ((pu hj ho tj ht oM)▸hDj) hni
   ·omega
  ·have:oj=o:=Option.some.inj (hj.symm.trans ho);subst this;rw[U5 a hdst,if_pos hd];exact hv
 ·have hDj':=old j oj hj hDj tj hle;rw[U5 a hdst,if_neg (hne j oj d hj hDj' hd)];obtain⟨B,mk,q1,q2,q3,q4,q5,q6⟩:=h.pend j oj d hj hDj' tj oM hd;have hA:uU ops m L D (L j).blk:=⟨j,oj,hj,hDj',tj,oM,rfl⟩
  refine⟨B,mk,q1,q2,q3,q4.mono hx (hW.below.block _ (.inr hA)),q5,fun b B' l' h1 h2 h3 hq=>?_⟩;exact((hW.blk b B' l' h1 h3).lt h2).1 (.inr (hq▸hA))
theorem St.early(hR:Rig P C ops E V K nt)(h:St ops base w0 V K e0 φ0 H0 ws nt ds m φ L D a w){i:Nat}{o:Oper}(ho:ops[i]?=some o)(hni:¬D i)(hdeps:∀d∈R1 o,D d) (ht:A8 o.op=true) (hf:Y2 o.op=true) (hn:m<nT ops i) {B:Blk} {mk:Nat→Value} {v':Value} {w1:World} {l:Loc}
  (hm:B.mine=true) (hK:K (nT ops i+1)=(K (nT ops i)).push B) (hV:V i=mk (K (nT ops i)).next) (hl:l.blk=w.heap.size) (hbut:But w w1 none) (hbel:Bel base.pr w0 w1) (hB:BR base φ B l w1) (hold:∀(k:Nat)(o':Obj),w.heap[k]?=some o'→w1.heap[k]?=some o') (hmk:∀(φ2:List Loc)(b:Nat),φ2[b]?=some l→VR φ2 (mk b) v'):
  St ops base w0 V K e0 φ0 H0 ws nt ds m φ (fun x=>if x=i then l else L x) (fun x=>D x∨x=i) (a.put o.dst v') w1:=by
 have hM:=hR.mix;have hdst:dD a.tmps.size o.dst=true:=by rw[h.tsz];exact(X3 hR.okn (by simpa using Array.mem_of_getElem? ho)).2
 have hne:∀(j:Nat) oj(d:Nat),ops[j]?=some oj→D j→oj.dst=some d→o.dst≠some d:=fun j oj d hj hDj hd q=>hni ((hM.dst j i oj o d hj ho hd q)▸hDj);have hij:∀j,D j→j≠i:=fun j hDj q=>hni (q▸hDj);have inW:∀(j:Nat) oj,ops[j]?=some oj→D j→A8 oj.op=true→m≤nT ops j→(L j).blk<w.heap.size:=fun j oj hj hDj tj hle=>by
  obtain⟨_,d,hd⟩:=hM.free j oj hj (h.high j oj hj tj hle hDj);obtain⟨B2,mk2,q1,_,_,q4,_⟩:=h.pend j oj d hj hDj tj hle hd;exact(q4.lt q1).2
 refine⟨fun j oj hj hDj d hd=>?_,h.mle,fun j oj hj tj hlt=> .inl (h.low j oj hj tj hlt),fun j oj hj tj hle hDj=>?_,h.ext,h.le,h.wr.grow hbut hbel,?_,by rw[lJ];exact h.tsz,by rw[N1];exact h.dfr,fun t q=>?_,fun j oj d hj hDj hd hlt=>?_,fun j oj d hj hDj tj hle hd=>?_,fun j k oj ok hj hk hDj hDk tj tk h1 h2 hjk=>?_⟩
 ·rcases hDj with hDj|rfl
  ·exact .inl (h.closed j oj hj hDj d hd)
  ·have:oj=o:=Option.some.inj (hj.symm.trans ho);subst this;exact .inl (hdeps d hd)
 ·rcases hDj with hDj|rfl
  ·exact h.high j oj hj tj hle hDj
  ·have:oj=o:=Option.some.inj (hj.symm.trans ho);subst this;exact hf
 ·intro b B' l' hb hB' hd' hl';have h1:=h.fr b B' l' hb hB' hd' hl';have hfr:Fr φ (K m).bs (K m).low w w1:=Fr.of_old h.wr hold;have hs:(K m).bs[b]?=some B':=by rw[h.le.same b hb (List.getElem?_eq_some_iff.1 hB').1];exact hB'
  rw[hfr b B' l' hb hs hd' (h.ext b l' hl'),h1]
 ·rw[U5 a hdst,if_neg (q i o ho (.inr rfl))];exact h.t0 t fun j oj hj hDj=>q j oj hj (.inl hDj)
 ·rcases hDj with hDj|rfl
  ·rw[U5 a hdst,if_neg (hne j oj d hj hDj hd)];exact h.t1 j oj d hj hDj hd hlt
  ·have:oj=o:=Option.some.inj (hj.symm.trans ho);subst this;have:=hlt ht;omega
 ·rcases hDj with hDj|rfl
  ·rw[U5 a hdst,if_neg (hne j oj d hj hDj hd)];obtain⟨B2,mk2,q1,q2,q3,q4,q5,q6⟩:=h.pend j oj d hj hDj tj hle hd;simp only[if_neg (hij j hDj)];exact⟨B2,mk2,q1,q2,q3,q4.mono (Ext.refl φ) (hbut.2 _ (q4.lt q1).2 (by simp)),q5,q6⟩
  ·have:oj=o:=Option.some.inj (hj.symm.trans ho);subst this;rw[U5 a hdst,if_pos hd];simp only[if_true];refine⟨B,mk,hm,hK,hV,hB,hmk,fun b B' l' h1 h2 h3=>?_⟩;have:=((h.wr.blk b B' l' h1 h3).lt h2).2;omega
 ·rcases hDj with hDj|rfl
  ·rcases hDk with hDk|rfl
   ·simp only[if_neg (hij j hDj),if_neg (hij k hDk)];exact h.sep j k oj ok hj hk hDj hDk tj tk h1 h2 hjk
   ·simp only[if_neg (hij j hDj),if_true];have:=inW j oj hj hDj tj h1;omega
  ·rcases hDk with hDk|rfl
   ·simp only[if_neg (hij k hDk),if_true];have:=inW k ok hk hDk tk h2;omega
   ·exact absurd rfl hjk
theorem St.step(hR:Rig P C ops E V K nt)(h0:E 0=e0)(hφ0:φ0.length=H0.bs.length)(h:St ops base w0 V K e0 φ0 H0 ws nt ds m φ L D a w)(hnorm:∀(i:Nat) o,ops[i]?=some o→A8 o.op=true→nT ops i=m→¬D i) {i:Nat} {o:Oper} (ho:ops[i]?=some o) (hni:¬D i) (hdeps:∀d∈R1 o,D d) {Q:Exit→Act→World→Prop}:
  wpOp P ops Q i (fun a' w'=>∃m' φ' L',St ops base w0 V K e0 φ0 H0 ws nt ds m' φ' L' (fun x=>D x∨x=i) a' w') a w:=by
 have hM:=hR.mix;have hi:=P1 ho;have hsel:=fun cs b=>Region.noSelect_spec hM.sel i o cs b ho;have hge:A8 o.op=true→m≤nT ops i:=fun ht=>by
  apply Classical.byContradiction;intro hlt;exact hni (h.low i o ho ht oM)
 have hord:A8 o.op=true→Y2 o.op=false→nT ops i=m:=fun ht hf=>by
  apply Classical.byContradiction;intro hne;have:=hge ht;obtain⟨k,ok,hki,hk,tk,hnk⟩:=GI (ops:=ops) i m oM;exact hnorm k ok hk tk hnk (hM.done h.closed i k o ho (P1 hk) hdeps (hM.ord i k o ok ho hk hki ht hf tk))
 obtain⟨e1,a1,hE,haop,hex,hwA,hlA,hwR⟩:=Hr (P:=P) (ops:=ops) (o:=o) (Ei:=E i) hsel h.tsz (h.reads hR h0 ho hni hdeps hord);have hok:=(X3 hR.okn (by simpa using Array.mem_of_getElem? ho)).1;have hwant:Region.wanted o (yielded ops a.tmps)=D6 ops (E i) o:=by rw[←hwR,←hwA,hE.wanted ops o (T1 hR.okn) (by rw[hlA];exact hR.tr.nl i o hi ho)]
 unfold wpOp;simp only[ho];rw[hwant];cases hw:D6 ops (E i) o with
 |true=>
  rw[if_pos rfl]
  left
  cases ht:A8 o.op with
  |false=>
   have hc:isCall o.op=false:=by
    cases hc:isCall o.op with
    |false=>rfl
    |true=>
     unfold isCall at hc;split at hc
     ·rename_i heq;rw[heq]at ht;cases ht
     ·cases hc
   have hop:aop P noC o.op (E i) (K m)=some (V i,none):=by
    cases hrd:rdK o.op with
    |false=>exact hR.tr.flat i o hi ho hw ht hrd _
    |true=>
     refine hR.tr.pure i o hi ho hw ht hrd m h.mle ?_ ?_
     ·apply Classical.byContradiction;intro hlt;obtain⟨c,oc,hc1,hc2,hc3,hc4⟩:=Ct (ops:=ops) (A:=E6 ops.toList []) (i:=i) (j:=m) oM;exact hnorm c oc hc1 hc2 hc3 (hM.done h.closed i c o ho (P1 hc1) hdeps hc4)
     ·apply Classical.byContradiction;intro hlt;obtain⟨c,oc,hc1,hc2,hc3,hc4⟩:=NV (ops:=ops) (A:=E6 ops.toList []) (i:=i) (j:=m) oM h.mle;have hDc:=h.low c oc hc1 hc2 hc3;exact hni (hM.done h.closed c i oc hc1 hi (h.closed c oc hc1 hDc) hc4)
   rw[←haop]at hop;obtain⟨v',hv,hrun⟩:=eZ h.wr hE hok hc hop;unfold Oper.wp;rw[←hex,hrun w h.wr.cls,Oper.upon_value];exact⟨m,φ,L,h.pure hR ho hni hdeps ht hv⟩
  |true=>
   obtain⟨r,hop,hKr⟩:=hR.tr.turn i o hi ho hw ht;rw[←haop]at hop;by_cases hn:nT ops i=m
   ·rw[hn]at hop hKr;have hA:=h.aside hM;cases hc:isCall o.op with
    |false=>
     cases r with
     |none=>
      have hKr':K (m+1)=K m:=hKr;obtain⟨v',hv,hrun⟩:=eZ hA hE hok hc hop;unfold Oper.wp;rw[←hex,hrun w hA.cls,Oper.upon_value];exact⟨m+1,φ,L,h.turn hR hφ0 ho hni hdeps ht hn (Ext.refl φ) (by rw[hKr'];exact Le.refl _) hv (by rw[hKr'];exact hA) (by rw[hKr'];exact gC _)⟩
     |some H2=>
      have hKr':K (m+1)=H2:=hKr;obtain⟨v',w',φ',hrun,hx,hv,hW',hfr⟩:=pz hA hE hok hc hop;have fin:=h.turn hR hφ0 ho hni hdeps ht hn hx (by rw[hKr'];exact jr hc hop) hv (by rw[hKr'];exact hW') (by rw[hKr'];exact hfr);unfold Oper.wp;rw[←hex];rcases hrun with hrun|⟨hrun,rfl⟩
      ·rw[hrun,Oper.upon_value];exact⟨m+1,φ',L,fin⟩
      ·rw[hrun,Oper.upon_skip];exact⟨m+1,φ',L,fin⟩
    |true=>
     obtain⟨c,f,g,first,captured,hoc,hcal,hf,hcall⟩:=U7 hc hop;obtain⟨first',captured',hf',hargs⟩:=eP hE hok hoc hcal hf;obtain⟨hen,hle,hna,hspec⟩:=hR.okc (base.add (uU ops m L D)) w _ _ _ _ _ hcall;have hcl:=hspec φ w _ hargs hA;unfold Oper.wp;rw[←hex,aR hcal (ty:=o.type) hf' hen hoc,Oper.upon_enter];simp only[Array.toArray_toList]at hcl;refine hcl.mono fun en w' hpost=>?_;cases r with
     |none=>
      have hKr':K (m+1)=K m:=hKr;obtain⟨rfl,hcls⟩:=hpost;exact⟨m+1,φ,L,h.turn hR hφ0 ho hni hdeps ht hn (Ext.refl φ) (by rw[hKr'];exact Le.refl _) (VR.na (hna rfl)) (by rw[hKr'];exact hcls.wr) (by rw[hKr'];exact fun b B l _ hB hd hl=>hcls.same b B l hB hd hl)⟩
     |some H2=>
      have hKr':K (m+1)=H2:=hKr;obtain⟨v',φ',rfl,hx,hv,hW',hfr⟩:=hpost;exact⟨m+1,φ',L,h.turn hR hφ0 ho hni hdeps ht hn hx (by rw[hKr'];exact hle H2 rfl) hv (by rw[hKr'];exact hW') (by rw[hKr'];exact hfr)⟩
   ·have hlt:m<nT ops i:=by have:=hge ht;omega
    have hf:Y2 o.op=true:=by
     cases hf:Y2 o.op with
     |true=>rfl
     |false=>exact absurd (hord ht hf) hn
    obtain⟨B,mk,v',w1,l,hm1,hr,hv,hrun,hl,hbut,hbel,hB,hold,hmk⟩:=tB h.wr hE hok hf hop;subst hr;unfold Oper.wp;rw[←hex,hrun,Oper.upon_value];exact⟨m,φ,_,h.early hR ho hni hdeps ht hf hlt hm1 hKr hv hl hbut hbel hB hold hmk⟩
 |false=>
  rw[if_neg Bool.false_ne_true];obtain⟨hV,hKs⟩:=hR.tr.off i o hi ho hw;have hv:VR φ (V i) undef:=by rw[hV];exact VR.undef' φ
  cases ht:A8 o.op with
  |false=>exact⟨m,φ,L,h.pure hR ho hni hdeps ht hv⟩
  |true=>
   have hf:Y2 o.op=false:=by
    cases hf:Y2 o.op with
    |false=>rfl
    |true=>
     have:=(hM.free i o ho hf).1;unfold D6 at hw;rw[this]at hw;cases hw
   have hn:=hord ht hf;have hKs':=hKs ht;rw[hn]at hKs';exact⟨m+1,φ,L,h.turn hR hφ0 ho hni hdeps ht hn (Ext.refl φ) (by rw[hKs'];exact Le.refl _) hv (by rw[hKs'];exact h.aside hM) (by rw[hKs'];exact gC _)⟩
theorem St.done(hR:Rig P C ops E V K nt)(h0:E 0=e0)(h:St ops base w0 V K e0 φ0 H0 ws nt ds m φ L D a w)(hnorm:∀(i:Nat) o,ops[i]?=some o→A8 o.op=true→nT ops i=m→¬D i) (hall:∀i,i<ops.size→D i):
  Ext φ0 φ∧ER φ nt (E ops.size) a∧WR base w0 φ (K (nT ops ops.size)).bs w∧Fr φ0 H0.bs (K (nT ops ops.size)).low ws w∧a.defers=ds:=by
 have hmN:m=nT ops ops.size:=by
  apply Classical.byContradiction;intro hne;obtain⟨i,o,hi,ho,ht,hn⟩:=GI (ops:=ops) ops.size m (by have:=h.mle;omega);exact hnorm i o ho ht hn (hall i hi)
 subst hmN;refine⟨h.ext,⟨h.tsz,fun t=>?_⟩,h.wr,h.fr,h.dfr⟩;by_cases hex:∃(k:Nat)(ok:Oper),ops[k]?=some ok∧ok.dst=some t
 ·obtain⟨k,ok,hk,hd⟩:=hex;rw[Fs hR ops.size k ok t (P1 hk) lR hk hd];exact h.t1 k ok t hk (hall k (P1 hk)) hd fun tk=>fp hk tk (P1 hk)
 ·rw[sq hR ops.size t lR (fun k ok _ hk hd=>hex ⟨k,ok,hk,hd⟩),h0];exact h.t0 t fun k ok hk _ hd=>hex ⟨k,ok,hk,hd⟩
theorem jg{α:Type}{p q:α→Bool}:∀{l:List α},(∀x∈l,p x=true→q x=true)→(∃x∈l,q x=true∧p x=false)→l.countP p<l.countP q
 |[],_,h=>by obtain⟨x,h1,_⟩:=h;simp at h1
 |a::l,h,hx=>by
  have hle:∀l:List α,(∀x∈l,p x=true→q x=true)→l.countP p≤l.countP q:=fun l h=>List.countP_mono_left fun x hx hp=>h x hx hp;rw[List.countP_cons,List.countP_cons];have h1:=hle l fun x hx=>h x (List.mem_cons_of_mem _ hx);obtain⟨x,hxm,hq,hp⟩:=hx;rcases List.mem_cons.1 hxm with rfl|hxm
  ·rw[hq,hp];simp;omega
  ·have h2:=jg (l:=l) (fun x hx=>h x (List.mem_cons_of_mem _ hx)) ⟨x,hxm,hq,hp⟩;have h3:(if p a=true then 1 else 0)≤(if q a=true then 1 else 0):=by
    cases hpa:p a with
    |false=>simp
    |true=>rw[h a (by simp) hpa];simp
   omega
def kX(ops:Array Oper)(listed:Array Bool):Nat:=(List.range ops.size).countP fun i=> !listed.getD i false
theorem GU(hR:Rig P C ops E V K nt)(h0:E 0=e0)(hφ0:φ0.length=H0.bs.length){Q:Exit→Act→World→Prop}
  (hQ:∀φ a w,Ext φ0 φ→ER φ nt (E ops.size) a→WR base w0 φ (K (nT ops ops.size)).bs w→Fr φ0 H0.bs (K (nT ops ops.size)).low ws w→a.defers=ds→Q .normal a w):
  ∀(fuel:Nat)(listed:Array Bool)(a:Act)(w:World),listed.size=ops.size→kX ops listed≤fuel→(∃m φ L,St ops base w0 V K e0 φ0 H0 ws nt ds m φ L (fun i=>listed.getD i false=true) a w)→wpAny P .any ops Q fuel listed a w:=by
 have hM:=hR.mix;have inR:∀(listed:Array Bool)(i:Nat)(o:Oper),listed.size=ops.size→ops[i]?=some o→listed.getD i false=false→(∀d∈R1 o,listed.getD d false=true)→i∈Region.ready .any ops listed:=by
  intro listed i o hs ho hf hd;refine mem_ready.2 ⟨?_,o,ho,fun e he hb=>hd e.on ?_⟩
  ·have:i<listed.size:=by rw[hs];exact P1 ho
   simp only[Array.getD_eq_getD_getElem?,Array.getElem?_eq_getElem this,Option.getD_some]at hf ⊢;exact hf
  ·unfold R1;exact List.mem_map.2 ⟨e,List.mem_filter.2 ⟨by simpa using he,hb⟩,rfl⟩
 have noR:∀(listed:Array Bool),listed.size=ops.size→Region.ready .any ops listed=[]→∀i,i<ops.size→listed.getD i false=true:=by
  intro listed hs hr i;induction i using Nat.strongRecOn with
  |ind i ih=>
   intro hi;apply Classical.byContradiction;intro hn;have ho:ops[i]?=some ops[i]:=Array.getElem?_eq_getElem hi;have:=inR listed i _ hs ho (by simpa using hn) fun d hd=>by
    have hdi:=hM.back i _ ho d hd;exact ih d hdi oM
   rw[hr]at this;cases this
 intro fuel;induction fuel with
 |zero=>
  intro listed a w hs hle ⟨m,φ,L,h⟩;obtain⟨m',φ',h',hnorm⟩:=h.norm hM (nT ops ops.size-m) m φ (by have:=h.mle;omega);have hall:∀i,i<ops.size→listed.getD i false=true:=by
   intro i hi;have h1:kX ops listed=0:=oM;unfold kX at h1;rw[List.countP_eq_zero]at h1
   simpa using h1 i (List.mem_range.2 hi)
  obtain⟨q1,q2,q3,q4,q5⟩:=h'.done hR h0 hnorm hall;refine⟨?_,hQ φ' a w q1 q2 q3 q4 q5⟩;apply List.eq_nil_iff_forall_not_mem.2;intro i hi;obtain⟨h1,o,ho,_⟩:=mem_ready.1 hi;have:=hall i (P1 ho);have hlt:i<listed.size:=by rw[hs];exact P1 ho
  simp only[Array.getD_eq_getD_getElem?,Array.getElem?_eq_getElem hlt,Option.getD_some]at h1 this;rw[h1]at this;cases this
 |succ fuel ih=>
  intro listed a w hs hle ⟨m,φ,L,h⟩;obtain⟨m',φ',h',hnorm⟩:=h.norm hM (nT ops ops.size-m) m φ (by have:=h.mle;omega);refine⟨fun hr=>?_,fun i hi=>?_⟩
  ·obtain⟨q1,q2,q3,q4,q5⟩:=h'.done hR h0 hnorm (noR listed hs hr);exact hQ φ' a w q1 q2 q3 q4 q5
  ·obtain⟨h1,o,ho,hd⟩:=mem_ready.1 hi;have hlt:i<listed.size:=by rw[hs];exact P1 ho
   have h1':listed.getD i false=false:=by
    simp only[Array.getD_eq_getD_getElem?,Array.getElem?_eq_getElem hlt,Option.getD_some]at h1 ⊢;exact h1
   have hdeps:∀d∈R1 o,listed.getD d false=true:=fun d hdm=>by
    unfold R1 at hdm;obtain⟨e,he,rfl⟩:=List.mem_map.1 hdm;obtain⟨he1,he2⟩:=List.mem_filter.1 he;exact hd e (by simpa using he1) he2
   have hget:∀x,(listed.setIfInBounds i true).getD x false=true↔(listed.getD x false=true∨x=i):=fun x=>by
    by_cases hx:x=i
    ·subst hx;simp [hlt]
    ·rw[getD_set_ne false (fun q=>hx q.symm)];simp [hx]
   refine wpOp_mono (fun a' w' hst=>ih _ a' w' (by simp [hs]) ?_ ?_) (h'.step hR h0 hφ0 hnorm ho (by rw[h1'];exact Bool.false_ne_true) hdeps)
   ·have:kX ops (listed.setIfInBounds i true)<kX ops listed:=by
     unfold kX;refine jg (fun x _ hx=>?_) ⟨i,List.mem_range.2 (P1 ho),by simp [h1'],by simp [hlt]⟩;simp only[Bool.not_eq_true']at hx ⊢;cases hq:listed.getD x false with
     |false=>rfl
     |true=>rw[(hget x).2 (.inl hq)]at hx;cases hx
    omega
   ·obtain⟨m2,φ2,L2,h2⟩:=hst;have:(fun x=>listed.getD x false=true∨x=i)=fun x=>(listed.setIfInBounds i true).getD x false=true:=by
     funext x;exact propext (hget x).symm
    rw[this]at h2;exact⟨m2,φ2,L2,h2⟩
end
theorem vH{C:A5}(hC:U3 P C){ops:Array Oper}(hops:dG nt ops=true)(hok:jt ops (E6 ops.toList [])=true){Q:Exit→Act→World→Prop}{e e':Env}{H H':d9}
  (h:I0 P C ops 0 [] [] (gL ops) e H=some (e',H')) (hE:ER φ nt e a) (hW:WR base w0 φ H.bs w) (hp:fk base w0 φ H w nt a.defers e' H' (Q .normal)):wpAny P .any ops Q ops.size (Array.replicate ops.size false) a {w with drawn:=w.drawn+1}:=by
 have hM:=ag9 hok;have hdr:Cls base w0 φ H.bs w {w with drawn:=w.drawn+1}:=⟨hW.same_heap rfl rfl rfl rfl,fun _ _ _ _ _ _=>rfl⟩
 obtain⟨E,V,K,hT,hE0,hK0,hEn,hKn⟩:=xO hM ops.size 0 0 [] [] (fun _=>e) (fun _=>undef) (fun _=>H) oM rfl
  ⟨fun i o hi=>oM,fun i o hi=>oM,fun i o hi=>oM,fun i o hi=>oM,fun i o hi=>oM,fun i o hi=>oM⟩ (fun j hj=>by rw[vI]at hj;omega) (fun x o hx=>oM) (by simpa using h)
 have hR:Rig P C ops E V K nt:=⟨hM,hT,hC,hops⟩
 refine GU (base:=base) (w0:=w0) (φ0:=φ) (H0:=H) (ws:=w) (ds:=a.defers) (e0:=e) hR hE0 hW.len.symm.symm (fun φ' a' w' h1 h2 h3 h4 h5=>?_) ops.size _ a _ (by simp) ?_ ⟨0,φ,fun _=>⟨0,0,0,0⟩,?_⟩
 ·rw[hEn]at h2;rw[hKn]at h3 h4;exact hp φ' a' w' h1 h2 h3 h4 h5
 ·unfold kX;refine Nat.le_trans List.countP_le_length (by simp)
 ·have hno:∀i,¬((Array.replicate ops.size false).getD i false=true):=fun i=>by
   simp only[Array.getD_eq_getD_getElem?,Array.getElem?_replicate];split<;>simp
  have hK00:K 0=H:=hK0;refine⟨fun i o _ hD=>absurd hD (hno i),Nat.zero_le _,fun i o _ _ hlt=>oM,fun i o _ _ _ hD=>absurd hD (hno i),Ext.refl φ,by rw[hK00];exact Le.refl _,by rw[hK00];exact hdr.wr,by rw[hK00];exact fun b B l _ hB hd hl=>hdr.same b B l hB hd hl,hE.size,rfl,fun t _=>hE.val t,fun i o d _ hD=>absurd hD (hno i),fun i o d _ hD=>absurd hD (hno i),fun i j oi oj _ _ hD=>absurd hD (hno i)⟩
theorem xN{C:A5}(hm:P.follows .mixedOrders=true)(hC:U3 P C){ops:Array Oper}(hops:dG nt ops=true)(hok:jt ops (E6 ops.toList [])=true){Q:Exit→Act→World→Prop}{e e':Env}{H H':d9}(id:Nat)
  (h:I0 P C ops 0 [] [] (gL ops) e H=some (e',H')) (hE:ER φ nt e a) (hW:WR base w0 φ H.bs w) (hp:fk base w0 φ H w nt a.defers e' H' (Q .normal)):(Code.region id ops true).wp P Q a w:=
 wp_region_any hm (vH hC hops hok h hE hW hp)
end
end Go.Proofs.YtofbhlhamfkljaaGreatDoor.Ve
