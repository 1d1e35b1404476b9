/- A part of the claim: the evaluator and the contracts. Conditions: none here. -/
import Derived.KernelRfl
import Derived.WalkKit
import Derived.Below
import Derived.Deep.Quiet
import Derived.StillTail
import Derived.Laws.StructEq
import Derived.Laws.Tables
import Derived.Scope
import Derived.LoopN
set_option linter.unusedVariables false
set_option linter.unusedSimpArgs false
set_option linter.defProp false
set_option maxHeartbeats 0
set_option maxRecDepth 1000000
namespace Go.Proofs.YtofbhlhamfkljaaGreatDoor.Ve
open Go
universe uA
theorem rT{A:Sort uA}{a:A}:a=a:=Eq.trans rfl rfl
theorem aI{a b:Prop}(h:a)(k:b):a/\b:=⟨h,k⟩
abbrev LV:=List Value
abbrev eB:ByteArray:=ByteArray.empty
abbrev nS:Value:= .slice none 0 0
abbrev iV(n:Int):Value:= .int .i64 n
abbrev pT(b:Nat):Value:= .pointer (some ⟨b,0,none⟩)
theorem oM{p:Prop}(h:p:=by omega):p:=h
theorem kR{p:Prop}(h:p:=by kernel_rfl):p:=h
theorem lR{n:Nat}:n<=n:=Nat.le_refl n
theorem iF{A B:Type}{p:A->B->Prop}:∀a b,p a b->p a b:=fun _ _ h=>h
theorem dT{p:Prop}[Decidable p](h:decide p=true):p:=of_decide_eq_true h
theorem dF{p:Prop}[Decidable p](h:decide p=false):¬p:=of_decide_eq_false h
theorem dN{A:Type}{l:List A}{i:Nat}(h:l.length<=i):l.drop i=[]:=List.drop_eq_nil_of_le h
theorem tN(i:Nat):(i:Int).toNat=i:=Int.toNat_natCast i
theorem eX{A:Sort uA}{a:A}:∃x,x=a:=⟨_,rfl⟩
theorem eY{A:Sort uA}(a:A):∃x,x=a:=⟨_,rfl⟩
theorem bF:((false=true)=False)/\∀{A:Type}{_:Decidable False}(a b:A),ite False a b=b:=⟨Bool.false_eq_true,if_false⟩
theorem sM{p:Prop}(h:p:=by simp):p:=h
abbrev sP(b:Nat):Option Addr:=some ⟨b,0,none⟩
abbrev oC:Value->Bool:=Value.oneCell'
theorem gS{A:Type uA}{l:List A}{i:Nat}{a:A}(h:l[i]?=some a):∃h:i<l.length,l[i]=a:=List.getElem?_eq_some_iff.1 h
theorem gA{A:Type uA}{l:Array A}{i:Nat}{a:A}(h:l[i]?=some a):∃h:i<l.size,l[i]=a:=Array.getElem?_eq_some_iff.1 h
theorem mG{A:Type uA}{l:List A}{i:Nat}{a:A}(h:l[i]?=some a):a∈l:=List.mem_of_getElem? h
theorem oN{q p:Prop}(a:q)(h:q->p:=by intro a;omega):p:=h a
inductive Blk where
 |cells (c:LV) (own:Bool) (sz:Nat)
 |dead
 |map (es:List (Value×Value))
 |iter (s:ByteArray) (pos:Nat)
 deriving Inhabited
structure d8 where
 bs:List Blk
 low:Nat
def d8.get(H:d8)(b:Nat):Option Blk:=H.bs[b]?
def d8.next(H:d8):Nat:=H.bs.length
def d8.push(H:d8)(x:Blk):d8:=⟨H.bs++[x],H.low⟩
def d8.put(H:d8)(b:Nat)(x:Blk):d8:=⟨H.bs.set b x,min H.low b⟩
abbrev Env:=List (Nat×Value)
def Env.get:Env->Nat->Value
 |[],_=>undef
 |(k,v)::e,t=>if k=t then v else Env.get e t
def na0:Value->Bool
 | .bool _| .int _ _| .string _| .pointer none| .slice none 0 0| .map none| .nilFunc| .nilIface=>true
 | .func (.func _) f c=>f.isEmpty&&c.isEmpty
 |_=>false
def na1:Value->Bool
 | .agg cs=>cs.toList.all na0
 | .iface _ v=>na0 v
 |v=>na0 v
def L9:Value->Bool
 | .tuple vs=>vs.toList.all na1
 |v=>na1 v
section
variable(P:Program)
def D8(t:TypeId):Option Nat:=(P.info? t).map (·.size)
def V0(t:TypeId):Option Nat:=(P.info? t).map (·.bytes)
def iP(t:TypeId):Option Value:=
 match(P.info? t).bind (·.zero)with
 |some z=>if na1 z then some z else none
 |none=>none
def O9(t:TypeId):Option (LV):=
 match(P.info? t).bind (·.zero)with
 |some z=>if z.cells.toList.all na0&&(D8 P t==some z.cells.size) then some z.cells.toList else none
 |none=>none
def bT(t:TypeId):Option Bool:=
 match P.underlying t with
 |some (.struct _)|some (.array _ _)=>some true
 |some _=>some false
 |none=>none
def vI(t:TypeId):Bool:=
 match P.underlying t with
 |some .bool=>true
 |_=>false
def I5(t:TypeId):Option TypeId:=
 match P.underlying t with
 |some (.slice e)=>some e
 |_=>none
def vK(t:TypeId):Option (TypeId×TypeId):=
 match P.underlying t with
 |some (.map k e)=>some (k,e)
 |_=>none
def sT(t:TypeId)(i:Nat):Option (Nat×TypeId):=
 match P.underlying t with
 |some (.struct fs)=>(fs[i]?).map fun f=>(f.offset,f.type)
 |_=>none
def FU(t:TypeId):Option (List (Nat×Nat)⊕Nat):=
 match P.underlying t with
 |some (.struct fs)=>(fs.toList.mapM fun f=>(D8 P f.type).map fun s=>(f.offset,s)).map .inl
 |some (.array _ e)=>(D8 P e).map .inr
 |_=>none
inductive Q5 where
 |bool|int|str
 deriving DecidableEq
def iz(tf:TypeId->Option (List Q5)):List Field->Nat->Option (List Q5)
 |[],_=>some []
 |f::fs,n=>
  if f.name≠ "_" /\f.offset=n then
   match tf f.type with
   |some m=>if D8 P f.type=some m.length then(iz tf fs (n+m.length)).map (m++ ·) else none
   |none=>none
  else none
def X7:Nat->TypeId->Option (List Q5)
 |0,_=>none
 |d+1,t=>
  match P.underlying t with
  |some .bool=>some [.bool]
  |some (.int _)=>some [.int]
  |some .string=>some [.str]
  |some (.struct fs)=>if P.stoodInHeld t then none else iz P (X7 d) fs.toList 0
  |_=>none
def vJ(t:TypeId):Option (List Q5):=if P.eqGuardType P.depth t then none else X7 P 9 t
def oW(t:TypeId):Option (List Q5):=if bT P t==some true then vJ P t else none
end
def N6:Q5->Value->Value->Option Bool
 | .bool,.bool a,.bool b=>some (a==b)
 | .int,.int k a,.int k' b=>if k=k' then some (a==b) else none
 | .str,.string a,.string b=>some (a==b)
 |_,_,_=>none
def A6:List Q5->LV->LV->Option Bool
 |[],[],[]=>some true
 |k::ks,x::xs,y::ys=>
  match N6 k x y,A6 ks xs ys with
  |some a,some b=>some (a&&b)
  |_,_=>none
 |_,_,_=>none
def eqA(P:Program)(t:TypeId):Value->Value->Option Bool
 | .bool a,.bool b=>if vI P t then some (a==b) else none
 | .int k a,.int k' b=>if k=k' then some (a==b) else none
 | .string a,.string b=>some (a==b)
 | .pointer none,.pointer b=>match P.underlying t with|some (.pointer _)=>some b.isNone|_=>none
 | .pointer (some _),.pointer none=>match P.underlying t with|some (.pointer _)=>some false|_=>none
 | .slice none _ _,.slice b _ _=>if(I5 P t).isSome then some b.isNone else none
 | .slice (some _) _ _,.slice none _ _=>if(I5 P t).isSome then some false else none
 | .agg xs,.agg ys=>match oW P t with|some ks=>A6 ks xs.toList ys.toList|none=>none
 |_,_=>none
def splice:LV->Nat->LV->LV
 |c,_,[]=>c
 |c,o,x::xs=>splice (c.set o x) (o+1) xs
def ld(P:Program)(t:TypeId)(H:d8):Value->Option Value
 | .pointer (some ⟨b,o,none⟩)=>
  match H.get b with
  |some (.cells c _ _)=>
   match bT P t with
   |some true=>
    match D8 P t with
    |some s=>if o+s<=c.length then some (.agg ((c.drop o).take s).toArray) else none
    |none=>none
   |some false=>c[o]?
   |none=>none
  |_=>none
 |_=>none
def sto(P:Program)(t:TypeId)(H:d8)(a x:Value):Option d8:=
 match a with
 | .pointer (some ⟨b,o,none⟩)=>
  match H.get b with
  |some (.cells c true sz)=>
   if D8 P t=some x.cells.toList.length/\o+x.cells.toList.length<=c.length/\x.cells.toList.all Value.oneCell'=true then
    some (H.put b (.cells (splice c o x.cells.toList) true sz))
   else none
  |_=>none
 |_=>none
def T4(place:Nat->Option (Nat×Nat)):LV->List (Nat×Value)->Option (LV)
 |cells,[]=>some cells
 |cells,(i,v)::rest=>
  match place i with
  |none=>none
  |some (off,size)=>
   if v.cells.toList.length≠size\/off+size>cells.length\/v.cells.toList.all Value.oneCell'=false then none
   else T4 place (splice cells off v.cells.toList) rest
def mE(P:Program)(t:TypeId)(parts:List (Nat×Value)):Option Value:=
 match O9 P t,FU P t with
 |some z,some (.inl ps)=>(T4 (fun i=>ps[i]?) z parts).map fun l=> .agg l.toArray
 |some z,some (.inr s)=>(T4 (fun i=>some (i*s,s)) z parts).map fun l=> .agg l.toArray
 |_,_=>none
def Q7(P:Program)(H:d8)(t:TypeId)(len:Nat)(parts:List (Nat×Value)):Option (Value×d8):=
 match I5 P t with
 |some e=>
  match O9 P e with
  |some z=>
   if z.length=0\/len*z.length>16777216\/(parts.all fun p=>p.2.cells.toList.all Value.oneCell')=false then none else
   match T4 (fun i=>some (i*z.length,z.length)) (List.replicate len z).flatten parts with
   |some cs=>some (.slice (some ⟨H.next,0,none⟩) len len,H.push (.cells cs true z.length))
   |none=>none
  |none=>none
 |none=>none
def N0(P:Program)(H:d8)(t:TypeId)(l c:Value):Option (Value×d8):=
 match I5 P t,l,c with
 |some e,.int _ n,.int _ m=>
  match O9 P e,V0 P e with
  |some z,some by'=>
   if z.length≠0/\0<=n/\n<=m/\m<=9223372036854775807/\(by':Int)*m<=281474976710656 then
    some (.slice (some ⟨H.next,0,none⟩) n.toNat (n.toNat+1),H.push (.cells (List.replicate n.toNat z).flatten true z.length))
   else none
  |_,_=>none
 |_,_,_=>none
def A5(H:d8)(size:Nat):Value->Option (LV)
 | .slice none 0 _=>some []
 | .slice (some ⟨b,o,none⟩) n _=>
  if n=0 then some [] else
  match H.get b with
  |some (.cells cs _ _)=>if o+n*size<=cs.length then some ((cs.drop o).take (n*size)) else none
  |_=>none
 |_=>none
def S0(b:UInt8):Value:= .int .u8 b.toNat
def dd:Value->Option UInt8
 | .int .u8 n=>some (UInt8.ofNat n.toNat)
 |_=>none
def aY(P:Program)(H:d8)(size:Nat)(xType:Option TypeId)(x:Value):Option (Nat×LV):=
 match xType.bind P.underlying,x with
 |some (.slice _),.slice a n c=>(A5 H size (.slice a n c)).map fun l=>(n,l)
 |some .string,.string s=>if size=1 then some (s.size,s.data.toList.map S0) else none
 |_,_=>none
def C2(P:Program)(H:d8)(ts:List TypeId)(s x:Value):Option (Value×Option d8):=
 match ts.head?.bind (I5 P)with
 |none=>none
 |some e=>
  match D8 P e,V0 P e,O9 P e with
  |some size,some by',some _=>
   if size=0\/by'=0 then none else
   match aY P H size (ts[1]?) x with
   |none=>none
   |some (n,xs)=>
    match s with
    | .slice none 0 0=>
     if n=0 then some (s,none)
     else if n*by'<=140737488355328 then some (.slice (some ⟨H.next,0,none⟩) n (n+1),some (H.push (.cells xs true size)))
     else none
    | .slice (some ⟨b,o,none⟩) len c=>
     if n=0 then some (s,none)
     else if(len+n)*by'<=140737488355328 then
      match H.get b with
      |some (.cells cs own sz)=>
       if o+len*size<=cs.length/\sz=size then
        if c=len then some (.slice (some ⟨H.next,0,none⟩) (len+n) (len+n+1),some (H.push (.cells ((cs.drop o).take (len*size)++xs) true size)))
        else if own then some (.slice (some ⟨H.next,0,none⟩) (len+n) (len+n+1),some ((H.put b .dead).push (.cells ((cs.drop o).take (len*size)++xs) true size)))
        else none
       else none
      |_=>none
     else none
    |_=>none
  |_,_,_=>none
def kI(P:Program)(H:d8)(ts:List TypeId)(d s:Value):Option (Value×Option d8):=
 match ts.head?.bind (I5 P)with
 |none=>none
 |some e=>
  match D8 P e,d with
  |some size,.slice da dn _=>
   if size=0 then none else
   match s with
   | .slice sa sn sc=>
    match A5 H size (.slice sa sn sc)with
    |some ys=>
     if min sn dn=0 then some (goInt 0,none) else
     match da with
     |some ⟨b,o,none⟩=>
      match H.get b with
      |some (.cells cs true sz)=>if o+(min sn dn)*size<=cs.length then some (goInt (min sn dn:Nat),some (H.put b (.cells (splice cs o (ys.take (min sn dn*size))) true sz))) else none
      |_=>none
     |_=>none
    |none=>none
   |_=>none
  |_,_=>none
def bnd:Option Value->Nat->Option Nat
 |none,d=>some d
 |some (.int _ i),_=>if 0<=i then some i.toNat else none
 |_,_=>none
def CA(H:d8)(b:Nat):Option Nat:=
 match H.get b with
 |some (.cells _ _ sz)=>some sz
 |_=>none
def aH(P:Program)(H:d8)(t:TypeId)(x:Value)(lo hi mx:Option Value):Option Value:=
 match P.underlying t,x with
 |some .string,.string s=>
  match bnd lo 0,bnd hi s.size,mx with
  |some l,some h,none=>if l<=h/\h<=s.size then some (.string (s.extract l h)) else none
  |_,_,_=>none
 |some (.slice e),.slice a n c=>
  match D8 P e,bnd lo 0,bnd hi n with
  |some size,some l,some h=>
   if size=0 then none else
   if l<=h/\h<=n then
    match mx with
    |none=>
     match a with
     |none=>some (.slice none 0 0)
     |some ⟨b,o,none⟩=>
      if n=0 then some (.slice (some ⟨b,o,none⟩) 0 c) else
      if CA H b≠some size then none else
      if c=n then(if h=n then some (.slice (some ⟨b,o+l*size,none⟩) (h-l) (h-l)) else none)
      else some (.slice (some ⟨b,o+l*size,none⟩) (h-l) (h-l+1))
     |_=>none
    |some m=>
     if bnd (some m) 0=some h/\hi.isSome=true then
      match a with
      |none=>some (.slice none 0 0)
      |some ⟨b,o,none⟩=>some (.slice (some ⟨b,o+l*size,none⟩) (h-l) (h-l))
      |_=>none
     else none
   else none
  |_,_,_=>none
 |_,_=>none
def U5(P:Program)(t:TypeId)(x ix:Value):Option Value:=
 match P.underlying t,x,ix with
 |some (.slice e),.slice (some ⟨b,o,none⟩) n _,.int _ i=>
  match D8 P e with
  |some size=>if 0<=i/\i<n then some (.pointer (some ⟨b,o+i.toNat*size,none⟩)) else none
  |none=>none
 |some (.array n e),.pointer (some ⟨b,o,none⟩),.int _ i=>
  match D8 P e with
  |some size=>if 0<=i/\i<n then some (.pointer (some ⟨b,o+i.toNat*size,none⟩)) else none
  |none=>none
 |_,_,_=>none
def ik(P:Program)(t:TypeId)(cs:LV)(off:Nat):Option Value:=
 match bT P t,D8 P t with
 |some true,some s=>some (.agg ((cs.drop off).take s).toArray)
 |some false,_=>cs[off]?
 |_,_=>none
def fY(P:Program)(t:TypeId)(x ix:Value):Option Value:=
 match P.underlying t,x,ix with
 |some (.array n e),.agg cs,.int _ i=>
  match D8 P e with
  |some size=>if 0<=i/\i<n then ik P e cs.toList (i.toNat*size) else none
  |none=>none
 |some .string,.string s,.int _ i=>if 0<=i/\i<s.size then some (.int .u8 (s.data.toList.getD i.toNat 0).toNat) else none
 |_,_,_=>none
def ke(P:Program)(t:TypeId)(x:Value)(i:Nat):Option Value:=
 match sT P t i,x with
 |some (off,ft),.agg cs=>ik P ft cs.toList off
 |_,_=>none
def bf(P:Program)(t:TypeId)(x:Value)(i:Nat):Option Value:=
 match sT P t i,x with
 |some (off,ft),.pointer (some ⟨b,o,none⟩)=>
  match D8 P ft with
  |some s=>if s=0 then none else some (.pointer (some ⟨b,o+off,none⟩))
  |none=>none
 |_,_=>none
def uK(P:Program)(kt:TypeId)(x y:Value):Option Bool:=
 match vJ P kt,bT P kt with
 |some ks,some true=>match x,y with
  | .agg a,.agg b=>A6 ks a.toList b.toList
  |_,_=>none
 |some [k],some false=>N6 k x y
 |_,_=>none
def kM(P:Program)(kt:TypeId)(k:Value):List (Value×Value)->Nat->Option (Option (Nat×Value))
 |[],_=>some none
 |(k',v)::es,i=>
  match uK P kt k k' with
  |some true=>some (some (i,v))
  |some false=>kM P kt k es (i+1)
  |none=>none
def nJ:Q5->Value->Bool
 | .bool,.bool _| .int,.int _ _| .str,.string _=>true
 |_,_=>false
def X3:List Q5->LV->Bool
 |[],[]=>true
 |k::ks,x::xs=>nJ k x&&X3 ks xs
 |_,_=>false
def bh(P:Program)(kt:TypeId)(k:Value):Bool:=
 match vJ P kt,bT P kt,k with
 |some ks,some true,.agg cs=>X3 ks cs.toList
 |some ks,some false,v=>X3 ks [v]
 |_,_,_=>false
def gQ(P:Program)(H:d8)(t:TypeId)(m k:Value)(ok:Bool):Option Value:=
 match vK P t with
 |some (kt,et)=>
  if bh P kt k then
   match m with
   | .map (some b)=>
    match H.get b with
    |some (.map es)=>
     match kM P kt k es 0,iP P et with
     |some (some (_,v)),some _=>some (if ok then .tuple #[v,.bool true] else v)
     |some none,some z=>some (if ok then .tuple #[z,.bool false] else z)
     |_,_=>none
    |_=>none
   | .map none=>(iP P et).map fun z=>if ok then .tuple #[z,.bool false] else z
   |_=>none
  else none
 |none=>none
def Y7(P:Program)(H:d8)(t:TypeId)(m k v:Value):Option d8:=
 match vK P t with
 |some (kt,_)=>
  if bh P kt k then
   match m with
   | .map (some b)=>
    match H.get b with
    |some (.map es)=>
     match kM P kt k es 0 with
     |some (some (i,_))=>some (H.put b (.map (es.set i (k,v))))
     |some none=>some (H.put b (.map (es++[(k,v)])))
     |none=>none
    |_=>none
   |_=>none
  else none
 |none=>none
def F6(P:Program)(op:BinOp)(t:TypeId)(x y:Value):Option Value:=
 match op with
 | .eql=>(eqA P t x y).map .bool
 | .neq=>(eqA P t x y).map fun b=> .bool !b
 | .shl=>match x,y with
  | .int k a,.int _ b=>if 0<=b then some (.int k (k.wrap (a*2 ^ (min b.toNat k.bits)))) else none
  |_,_=>none
 | .shr=>match x,y with
  | .int k a,.int _ b=>if 0<=b then some (.int k (a.fdiv (2 ^ (min b.toNat k.bits)))) else none
  |_,_=>none
 |_=>
  match x,y with
  | .int k a,.int k' b=>
   if k=k' then
    match op with
    | .add=>some (.int k (k.wrap (a+b)))
    | .sub=>some (.int k (k.wrap (a-b)))
    | .mul=>some (.int k (k.wrap (a*b)))
    | .quo=>if b=0 then none else some (.int k (k.wrap (a.tdiv b)))
    | .rem=>if b=0 then none else some (.int k (a.tmod b))
    | .and=>some (.int k (Go.bits .and k a b))
    | .or=>some (.int k (Go.bits .or k a b))
    | .xor=>some (.int k (Go.bits .xor k a b))
    | .andNot=>some (.int k (Go.bits .andNot k a b))
    | .lss=>some (.bool (a<b))
    | .leq=>some (.bool (a<=b))
    | .gtr=>some (.bool (a>b))
    | .geq=>some (.bool (a≥b))
    |_=>none
   else none
  | .string a,.string b=>
   match op with
   | .add=>if a.size+b.size<=9223372036854775807 then some (.string (a++b)) else none
   | .lss=>some (.bool (Op.bytesLess a.toList b.toList))
   | .leq=>some (.bool (Op.bytesLess a.toList b.toList||a.toList==b.toList))
   | .gtr=>some (.bool !(Op.bytesLess a.toList b.toList||a.toList==b.toList))
   | .geq=>some (.bool !(Op.bytesLess a.toList b.toList))
   |_=>none
  |_,_=>none
def unA(op:UnOp)(x:Value):Option Value:=
 match op,x with
 | .neg,.int k n=>some (.int k (k.wrap (0-n)))
 | .not,.bool b=>some (.bool !b)
 | .xor,.int k n=>some (.int k (Go.bits .xor k (if k.signed then -1 else k.max) n))
 |_,_=>none
def Z4(P:Program)(H:d8)(src dst:TypeId)(x:Value):Option (Value×Option d8):=
 match P.underlying src,P.underlying dst,x with
 |some _,some (.int k),.int _ n=>some (.int k (k.wrap n),none)
 |some _,some .string,.string s=>some (.string s,none)
 |some (.slice e),some .string,.slice a n c=>
  match P.underlying e with
  |some (.int .u8)=>match(A5 H 1 (.slice a n c)).bind (·.mapM dd)with
   |some l=>some (.string ⟨l.toArray⟩,none)
   |none=>none
  |_=>none
 |some _,some (.slice e),.string s=>
  match P.underlying e with
  |some (.int .u8)=>some (.slice (some ⟨H.next,0,none⟩) s.size (s.size+1),some (H.push (.cells (s.data.toList.map S0) true 1)))
  |some (.int .i32)=>
   some (.slice (some ⟨H.next,0,none⟩) (Conv.runesFrom s s.size 0 #[]).size ((Conv.runesFrom s s.size 0 #[]).size+1),some (H.push (.cells (Conv.runesFrom s s.size 0 #[]).toList true 1)))
  |_=>none
 |_,_,_=>none
def EK(P:Program)(H:d8)(ts:List TypeId)(x:Value):Option Value:=
 match ts.head?.bind P.underlying,x with
 |some .string,.string s=>some (goInt s.size)
 |some (.slice _),.slice _ n _=>some (goInt n)
 |some (.array n _),_=>some (goInt n)
 |some (.map _ _),.map none=>some (goInt 0)
 |some (.map _ _),.map (some b)=>match H.get b with
  |some (.map es)=>some (goInt es.length)
  |_=>none
 |_,_=>none
def iE(mx:Bool):LV->Option Value
 |[.int k a]=>some (.int k a)
 | .int k a:: .int k' b::rest=>if k=k' then iE mx (.int k (if mx then(if b>a then b else a) else(if b<a then b else a))::rest) else none
 |_=>none
termination_by l=>l.length
def opv(e:Env):Operand->Value
 | .tmp t=>e.get t
 | .const v=>v
 | .func f=> .func (.func f) #[] #[]
 | .global _=>undef
abbrev A8:=FuncId->LV->d8->Option (Value×Option d8)
def D7(P:Program)(b:Builtin)(ts:List TypeId)(args:LV)(H:d8):Option (Value×Option d8):=
 match b,args with
 | .len,[x]=>(EK P H ts x).map fun v=>(v,none)
 | .append,[s,x]=>C2 P H ts s x
 | .copy,[d,s]=>kI P H ts d s
 | .max,xs=>(iE true xs).map fun v=>(v,none)
 | .min,xs=>(iE false xs).map fun v=>(v,none)
 |_,_=>none
def fI(P:Program)(C:A8)(e:Env)(c:Call)(H:d8):Option (Value×Option d8):=
 match c.callee with
 | .builtin b=>D7 P b c.argTypes.toList (c.args.toList.map (opv e)) H
 | .value f=>
  match opv e f with
  | .func (.func g) first captured=>C g (first.toList++c.args.toList.map (opv e)++captured.toList) H
  |_=>none
 | .invoke _ _=>none
def jB(H:d8)(it:Value):Option (Value×Option d8):=
 match it with
 | .pointer (some ⟨b,0,none⟩)=>
  match H.get b with
  |some (.iter s pos)=>
   if pos<s.size then
    some (.tuple #[.bool true,goInt pos,.int .i32 (Utf8.decode s pos).1],some (H.put b (.iter s (pos+(Utf8.decode s pos).2))))
   else some (.tuple #[.bool false],none)
  |_=>none
 |_=>none
def keep(v:Option Value):Option (Value×Option d8):=v.map fun v=>(v,none)
def turn(r:Option (Value×d8)):Option (Value×Option d8):=r.map fun(v,H)=>(v,some H)
def aop(P:Program)(C:A8)(o:Op)(e:Env)(H:d8):Option (Value×Option d8):=
 match o with
 | .move x| .assign x=>keep (some (opv e x))
 | .pick c a b=>match opv e c with
  | .bool t=>keep (some (if t then opv e a else opv e b))
  |_=>none
 | .alloc t=>turn ((O9 P t).map fun z=>(.pointer (some ⟨H.next,0,none⟩),H.push (.cells z true 1)))
 | .box _ x=>if(opv e x).cells.toList.all Value.oneCell' then turn (some (.pointer (some ⟨H.next,0,none⟩),H.push (.cells (opv e x).cells.toList true 1))) else none
 | .build t parts=>keep (mE P t (parts.toList.map fun(i,x)=>(i,opv e x)))
 | .buildSlice t len parts=>turn (Q7 P H t len (parts.toList.map fun(i,x)=>(i,opv e x)))
 | .load t a=>keep (ld P t H (opv e a))
 | .store t a x=>turn ((sto P t H (opv e a) (opv e x)).map fun H'=>(undef,H'))
 | .nilCheck x=>match opv e x with
  | .pointer (some a)=>keep (some (.pointer (some a)))
  | .func (.func g) f c=>keep (some (.func (.func g) f c))
  |_=>none
 | .binOp op t x y _=>keep (F6 P op t (opv e x) (opv e y))
 | .unOp op _ x=>keep (unA op (opv e x))
 | .convert s d x=>Z4 P H s d (opv e x)
 | .makeInterface t x=>if P.concrete t then keep (some (.iface t (opv e x))) else none
 | .makeFunc fn first captured=>match fn with
  | .func g=>keep (some (.func (.func g) (first.toList.map (opv e)).toArray (captured.toList.map (opv e)).toArray))
  |_=>none
 | .makeMap _ none=>turn (some (.map (some H.next),H.push (.map [])))
 | .makeSlice t l c=>turn (N0 P H t (opv e l) (opv e c))
 | .slice t x lo hi mx=>keep (aH P H t (opv e x) (lo.map (opv e)) (hi.map (opv e)) (mx.map (opv e)))
 | .fieldAddr s x f=>keep (bf P s (opv e x) f)
 | .field s x f=>keep (ke P s (opv e x) f)
 | .indexAddr t x ix=>keep (U5 P t (opv e x) (opv e ix))
 | .index t x ix=>keep (fY P t (opv e x) (opv e ix))
 | .lookup t m k ok=>keep (gQ P H t (opv e m) (opv e k) ok)
 | .mapUpdate t m k v=>turn ((Y7 P H t (opv e m) (opv e k) (opv e v)).map fun H'=>(undef,H'))
 | .range t x=>match P.underlying t,opv e x with
  |some .string,.string s=>turn (some (.pointer (some ⟨H.next,0,none⟩),H.push (.iter s 0)))
  |_,_=>none
 | .next it true=>jB H (opv e it)
 | .extract x i=>match opv e x with
  | .tuple vs=>if vs.toList.length<9 then keep (vs.toList[i]?) else none
  |_=>none
 | .call c=>fI P C e c H
 |_=>none
inductive Out where
 |normal
 |exit (id:Nat)
 |ret
 deriving DecidableEq
def isB(v:Value)(b:Bool):Bool:=match v with| .bool c=>c==b|_=>false
def E0(ops:Array Oper)(e:Env)(o:Oper):Bool:=
 match o.guard with
 |none=>true
 |some (j,b)=>match(ops[j]?).bind (·.dst)with
  |some d=>isB (e.get d) b
  |none=>false
def lost:Value:= .tuple #[.chan none,.chan none,.chan none,.chan none,.chan none,.chan none,.chan none,.chan none,.chan none]
def xC:Value->Bool
 | .tuple vs=>decide (vs.toList.length=9)
 |_=>false
def X4(ops:Array Oper)(e:Env)(o:Oper):Bool:=
 match o.guard with
 |none=>false
 |some (j,_)=>match(ops[j]?).bind (·.dst)with
  |some d=>xC (e.get d)
  |none=>false
def I3(e:Env):Option Nat->Value->Env
 |some d,v=>(d,v)::e
 |none,_=>e
def D1(P:Program)(C:A8)(ops:Array Oper):List Oper->Env->d8->Option (Env×d8)
 |[],e,H=>some (e,H)
 |o::rest,e,H=>
  if X4 ops e o then none else if E0 ops e o then
   match aop P C o.op e H with
   |some (v,none)=>D1 P C ops rest (I3 e o.dst v) H
   |some (v,some H')=>D1 P C ops rest (I3 e o.dst v) H'
   |none=>none
  else D1 P C ops rest (I3 e o.dst undef) H
def isCall:Op->Bool
 | .call {callee:= .value _,.. }=>true
 |_=>false
def oz:Op->Bool
 | .move _| .assign _| .slice .. =>true
 |_=>false
def pureTailB(ops:Array Oper)(n:Nat):Bool:=
 Region.noSelect ops&&decide (n<ops.size)&&(ops.toList.take n).all (fun o=>o.guard.isNone&&oz o.op)&&Region.lexHead .any ops (ops.size-n) n 0 (Array.replicate ops.size false)
def zU(ops:Array Oper)(n:Nat):Bool:=Region.lexTailB .any ops n||pureTailB ops n
def I2(P:Program)(C:A8)(ops:Array Oper):Nat->Bool->List Oper->Env->d8->Option (Env×d8)
 |_,_,[],e,H=>if Region.lexB .any ops then some (e,H) else none
 |i,q,o::rest,e,H=>
  if X4 ops e o then none else if E0 ops e o then
   match aop P C o.op e H with
   |some (v,none)=>I2 P C ops (i+1) (q||isCall o.op) rest (I3 e o.dst v) H
   |some (v,some H')=>if !q&&zU ops i then D1 P C ops rest (I3 e o.dst v) H' else none
   |none=>none
  else I2 P C ops (i+1) q rest (I3 e o.dst undef) H
def A9:Op->Bool
 | .alloc _| .box .. | .buildSlice .. | .store .. | .makeMap .. | .makeSlice .. | .mapUpdate .. | .range .. | .next .. =>true
 | .call ⟨.value _,_,_⟩=>true
 | .call ⟨.builtin .len,_,_⟩=>false
 | .call ⟨.builtin _,_,_⟩=>true
 |_=>false
def az:Op->Bool
 | .alloc _| .buildSlice .. =>true
 |_=>false
def rdK:Op->Bool
 | .load .. | .slice .. | .lookup .. | .convert .. | .call _=>true
 |_=>false
def PZ:Op->Bool
 | .call ⟨.value _,_,_⟩=>false
 |o=>A9 o
def U2(o:Oper):List Nat:=(o.after.toList.filter fun e=>Region.binds .any e).map (·.on)
def E4:List Oper->List Nat->List Nat
 |[],acc=>acc
 |o::r,acc=>E4 r (acc++[(U2 o).foldl (fun m d=>m|||(1<<<d)|||acc.getD d 0) 0])
def isAnc(A:List Nat)(i k:Nat):Bool:=(A.getD i 0).testBit k
def mc(ops:Array Oper)(A:List Nat)(i k:Nat)(oi ok:Oper):Bool:=
 (match ok.dst with
  |none=>true
  |some d=>(!(oi.looksAt ops).contains d||(if k<i then isAnc A i k else if i<k then isAnc A k i else false))&&(k==i||oi.dst !=some d)&&
   (!az ok.op||((A9 oi.op&& !az oi.op)|| !(oi.looksAt ops).contains d)))&&
 (!(decide (k<i)&&A9 oi.op&& !az oi.op&&A9 ok.op)||isAnc A i k)
def kl(ops:Array Oper)(A:List Nat)(i:Nat)(oi:Oper):Bool:=
 (U2 oi).all (· <i)&&(List.range ops.size).all (fun k=> !isAnc A i k||(U2 oi).any (fun d=>d==k||isAnc A d k))&&
 (List.range ops.size).all (fun k=>match ops[k]? with|none=>false|some ok=>mc ops A i k oi ok)&&
 (!az oi.op||(oi.guard.isNone&&oi.dst.isSome))
def kX(ops:Array Oper)(A:List Nat):Bool:=
 Region.noSelect ops&&(List.range ops.size).all fun i=>match ops[i]? with|none=>false|some oi=>kl ops A i oi
def T6(ops:Array Oper):List Nat:=(List.range ops.size).filter fun i=>match ops[i]? with|some o=>A9 o.op|none=>false
def sv(A tl:List Nat)(i:Nat):Nat×Nat:=((tl.takeWhile fun c=>isAnc A i c).length,(tl.takeWhile fun c=> !isAnc A c i).length)
def Ry(ops:Array Oper):Bool:=(List.range ops.size).any fun i=>match ops[i]? with
 |none=>false
 |some x=>isCall x.op&&A9 x.op&&(ops.toList.drop (i+1)).any fun y=>isCall y.op&&A9 y.op
def su(ops:Array Oper):Bool:=
 ((List.range ops.size).any fun i=>match ops[i]? with
  |none=>false
  |some o=>(PZ o.op&& !zU ops i)||(isCall o.op&&(ops.toList.drop (i+1)).any fun o=>PZ o.op))||(Ry ops&&kX ops (E4 ops.toList []))
def noC:A8:=fun _ _ _=>none
def rz(P:Program):List (Op×Env×Value×Nat)->Nat->d8->Prop
 |[],_,_=>True
 |(o,e,v,hi)::r,j,H=>(j<=hi->aop P noC o e H=some (v,none))/\rz P r j H
def ry(P:Program)(o:Op)(e:Env)(v:Value)(lo:Nat):List (Nat×d8)->Prop
 |[]=>True
 |(j,K)::r=>(lo<=j->aop P noC o e K=some (v,none))/\ry P o e v lo r
open Classical in
noncomputable def I7(P:Program)(C:A8)(ops:Array Oper):Nat->List (Nat×d8)->List (Op×Env×Value×Nat)->List (Oper×Nat×Nat)->Env->d8->Option (Env×d8)
 |_,_,_,[],e,H=>some (e,H)
 |t,Ks,obs,(o,lo,hi)::rest,e,H=>
  if X4 ops e o then none else if E0 ops e o then
   if A9 o.op then
    match aop P C o.op e H with
    |some (v,r)=>if rz P obs (t+1) (r.getD H) then I7 P C ops (t+1) ((t,H)::Ks) obs rest (I3 e o.dst v) (r.getD H) else none
    |none=>none
   else
    match aop P noC o.op e H with
    |some (v,none)=>if rdK o.op then(if ry P o.op e v lo Ks then I7 P C ops t Ks ((o.op,e,v,hi)::obs) rest (I3 e o.dst v) H else none) else I7 P C ops t Ks obs rest (I3 e o.dst v) H
    |_=>none
  else if A9 o.op then I7 P C ops (t+1) ((t,H)::Ks) obs rest (I3 e o.dst undef) H
  else I7 P C ops t Ks obs rest (I3 e o.dst undef) H
def jw(ops:Array Oper):List (Oper×Nat×Nat):=ops.toList.zipIdx.map fun q=>(q.1,sv (E4 ops.toList []) (T6 ops) q.2)
noncomputable def aR(P:Program)(C:A8)(ops:Array Oper)(e:Env)(H:d8):Option (Env×d8):=
 if su ops then(if kX ops (E4 ops.toList []) then I7 P C ops 0 [] [] (jw ops) e H else none) else I2 P C ops 0 false ops.toList e H
def dh:Code->List Nat
 | .region _ ops _=>ops.toList.filterMap (·.dst)
 | .seq a b=>dh a++dh b
 | .cond _ a b=>dh a++dh b
 | .block _ a| .loop a| .scope a=>dh a
 |_=>[]
def Ip:Op->Bool
 | .alloc _=>true
 |_=>false
def zI:Op->Bool
 | .store _ _ _=>true
 |_=>false
def Mc:Op->Bool
 | .load _ _=>true
 |_=>false
def fc(ops:Array Oper)(listed:List Bool)(rs:List Nat):Bool:=decide (Region.ready .any ops listed.toArray=rs)
def zl(ops:Array Oper):Bool:=
 match ops.toList with
 |[o0,o1,o2,o3]=>Ip o0.op&&zI o1.op&&zI o2.op&&Mc o3.op&&decide (o0.guard=none)&&fc ops [false,false,false,false] [0]&&fc ops [true,false,false,false] [1,2]&&
   fc ops [true,true,false,false] [2]&&fc ops [true,false,true,false] [1]&&fc ops [true,true,true,false] [3]&&fc ops [true,true,true,true] []
 |_=>false
structure JL where
 ops:Array Oper
 l1:List Oper
 l2:List Oper
 ds:List Nat
def eM(a b:Code):Option JL:=
 match a with
 | .region _ ops true=>match ops.toList with
  |[o0,o1,o2,o3]=>if zl ops then some ⟨ops,[o0,o1,o2,o3],[o0,o2,o1,o3],ops.toList.filterMap (·.dst)++dh b⟩ else none
  |_=>none
 |_=>none
def N4(n:Nat)(H:d8):d8:=(H.put n .dead).put (n+1) .dead
open Classical in
noncomputable def nG(ds:List Nat)(e:Env)(n:Nat)(x y:Option (Out×Env×d8)):Option (Out×Env×d8):=
 match x,y with
 |some (.normal,_,H1),some (.normal,_,H2)=>if N4 n H1=N4 n H2 then some (.normal,ds.map (fun d=>(d,lost))++e,N4 n H1) else none
 |_,_=>none
noncomputable def L5(P:Program)(C:A8):Nat->Code->Env->d8->Option (Out×Env×d8)
 |0,_,_,_=>none
 |k+1,c,e,H=>
  match c with
  | .skip=>some (.normal,e,H)
  | .ret=>some (.ret,e,H)
  | .exit id=>some (.exit id,e,H)
  | .region _ ops draw=>
   match(if draw then aR P C ops e H else D1 P C ops ops.toList e H)with
   |some (e',H')=>some (.normal,e',H')
   |none=>none
  | .seq a b=>
   match eM a b with
   |some z=>
    match D1 P C z.ops z.l1 e H,D1 P C z.ops z.l2 e H with
    |some (e1,H1),some (e2,H2)=>nG z.ds e H.next (L5 P C k b e1 H1) (L5 P C k b e2 H2)
    |_,_=>none
   |none=>
    match L5 P C k a e H with
    |some (.normal,e',H')=>L5 P C k b e' H'
    |r=>r
  | .cond x a b=>
   match opv e x with
   | .bool t=>L5 P C k (if t then a else b) e H
   |_=>none
  | .block id a=>
   match L5 P C k a e H with
   |some (.exit i,e',H')=>if i=id then some (.normal,e',H') else some (.exit i,e',H')
   |r=>r
  | .loop a=>
   match L5 P C k a e H with
   |some (.normal,e',H')=>L5 P C k (.loop a) e' H'
   |r=>r
  | .scope a=>L5 P C k a e H
  |_=>none
def C5:Operand->Bool
 | .const v=>L9 v
 | .global _=>false
 |_=>true
def fo(nt:Nat):Option Nat->Bool
 |some d=>decide (d<nt)
 |none=>true
def fw(nt:Nat)(ops:Array Oper):Bool:=
 ops.toList.all fun o=>o.op.operands.toList.all C5&&fo nt o.dst
def I1(nt:Nat):Code->Bool
 | .skip| .ret| .exit _=>true
 | .region _ ops _=>fw nt ops
 | .seq a b=>I1 nt a&&I1 nt b
 | .cond c a b=>C5 c&&I1 nt a&&I1 nt b
 | .block _ a| .loop a| .scope a=>I1 nt a
 |_=>false
def jD:Op->Bool
 | .defer _=>false
 |_=>true
def E7:Code->Bool
 | .skip| .ret| .exit _=>true
 | .region _ ops draw=>ops.toList.all (fun o=>jD o.op)&&(!draw||(su ops&&kX ops (E4 ops.toList [])))
 | .seq a b=>(eM a b).isNone&&E7 a&&E7 b
 | .cond _ a b=>E7 a&&E7 b
 | .block _ a| .loop a=>E7 a
 |_=>false
def fnA(P:Program)(f:FuncId):Option (Code×Nat×List ResultVar):=
 match P.funcs[f]? with
 |some fn=>
  match fn.body with
  |some c=>if I1 fn.ntmps c&&(fn.name != "runtime.NumGoroutine") then some (c,fn.ntmps,fn.results.toList) else none
  |none=>none
 |none=>none
def M0(P:Program)(e:Env)(H:d8):ResultVar->Option Value
 | .tmp t=>some (e.get t)
 | .cell a t=>ld P t H (e.get a)
def bN:LV->Value
 |[v]=>v
 |vs=> .tuple vs.toArray
def N3:Nat->LV->Env
 |_,[]=>[]
 |i,v::vs=>(i,v)::N3 (i+1) vs
def D6(v:Value)(H H':d8):Value×Option d8:=
 if L9 v&&decide (H.bs.length<=H'.low) then(v,none) else(v,some ⟨H'.bs,min H.low H'.low⟩)
abbrev Lib:=FuncId->Option (LV->d8->Option (Value×Option d8))
def body(P:Program)(ex:Code->Env->d8->Option (Out×Env×d8))(f:FuncId)(args:LV)(H:d8):Option (Value×Option d8):=
 match fnA P f with
 |some (c,nt,rs)=>
  if args.length<=nt then
   match ex c (N3 0 args) ⟨H.bs,H.bs.length⟩with
   |some (.exit _,_,_)=>none
   |some (_,e,H')=>
    match rs.mapM (M0 P e H')with
    |some vs=>some (D6 (bN vs) H H')
    |none=>none
   |none=>none
  else none
 |none=>none
noncomputable def call(P:Program)(X:Lib):Nat->A8
 |0,_,_,_=>none
 |k+1,f,args,H=>
  match X f with
  |some g=>g args H
  |none=>body P (L5 P (call P X k) k) f args H
end Go.Proofs.YtofbhlhamfkljaaGreatDoor.Ve
namespace Go.Proofs.YtofbhlhamfkljaaGreatDoor.Ve
open Go Go.RowKit
structure Loc where
 blk:Nat
 off:Nat
 cap:Nat
 sz:Nat
def Ext(φ φ':List Loc):Prop:=∀(b:Nat)(l:Loc),φ[b]?=some l->φ'[b]?=some l
theorem Ext.refl(φ:List Loc):Ext φ φ:=fun _ _ h=>h
theorem Ext.trans{a b c:List Loc}(h:Ext a b)(k:Ext b c):Ext a c:=fun _ _ x=>k _ _ (h _ _ x)
theorem Ext.snoc(φ:List Loc)(l:Loc):Ext φ (φ++[l]):=fun b u h=>by
 rw[List.getElem?_append_left];exact h;exact(gS h).1
inductive VR(φ:List Loc):Value->Value->Prop
 |bool (b:Bool):VR φ (.bool b) (.bool b)
 |int (k:IntKind) (n:Int):VR φ (.int k n) (.int k n)
 |string (s:ByteArray):VR φ (.string s) (.string s)
 |nilptr:VR φ (.pointer none) (.pointer none)
 |ptr {b o:Nat} {l:Loc} (h:φ[b]?=some l):VR φ (.pointer (some ⟨b,o,none⟩)) (.pointer (some ⟨l.blk,l.off+o,none⟩))
 |nilslice:VR φ (.slice none 0 0) (.slice none 0 0)
 |slice0 {a a':Addr} {c:Nat}:VR φ (.slice (some a) 0 c) (.slice (some a') 0 0)
 |exact{b o n:Nat} {l:Loc} (h:φ[b]?=some l):VR φ (.slice (some ⟨b,o,none⟩) n n) (.slice (some ⟨l.blk,l.off+o,none⟩) n n)
 |slice {b o n c:Nat} {l:Loc} (h:φ[b]?=some l) (hn:n<=c) (hc:o+c*l.sz<=l.cap):
   VR φ (.slice (some ⟨b,o,none⟩) n (n+1)) (.slice (some ⟨l.blk,l.off+o,none⟩) n c)
 |nilmap:VR φ (.map none) (.map none)
 |map {b:Nat} {l:Loc} (h:φ[b]?=some l):VR φ (.map (some b)) (.map (some l.blk))
 |nilFunc:VR φ .nilFunc .nilFunc
 |func (f:FuncId) {a a' c c':Array Value} (ha:a.toList.length=a'.toList.length) (h:∀(i:Nat) x y,a.toList[i]?=some x->a'.toList[i]?=some y->VR φ x y)
   (hc:c.toList.length=c'.toList.length) (h':∀(i:Nat) x y,c.toList[i]?=some x->c'.toList[i]?=some y->VR φ x y):VR φ (.func (.func f) a c) (.func (.func f) a' c')
 |nilIface:VR φ .nilIface .nilIface
 |iface (t:TypeId) {v v':Value} (h:VR φ v v'):VR φ (.iface t v) (.iface t v')
 |agg {a a':Array Value} (ha:a.toList.length=a'.toList.length) (h:∀(i:Nat) x y,a.toList[i]?=some x->a'.toList[i]?=some y->VR φ x y):VR φ (.agg a) (.agg a')
 |tuple {a a':Array Value} (ha:a.toList.length=a'.toList.length) (h:∀(i:Nat) x y,a.toList[i]?=some x->a'.toList[i]?=some y->VR φ x y):VR φ (.tuple a) (.tuple a')
 |lost (v:Value):VR φ lost v
def VRs(φ:List Loc)(xs ys:LV):Prop:=xs.length=ys.length/\∀(i:Nat) x y,xs[i]?=some x->ys[i]?=some y->VR φ x y
theorem VR.mono{φ J:List Loc}(D:Ext φ J){a b:Value}(h:VR φ a b):VR J a b:=by
 induction h with
 |bool b=>exact .bool b
 |int k n=>exact .int k n
 |string s=>exact .string s
 |nilptr=>exact .nilptr
 |ptr h=>exact .ptr (D _ _ h)
 |nilslice=>exact .nilslice
 |slice0=>exact .slice0
 |exact h=>exact .exact (D _ _ h)
 |slice h O E=>exact .slice (D _ _ h) O E
 |nilmap=>exact .nilmap
 |map h=>exact .map (D _ _ h)
 |nilFunc=>exact .nilFunc
 |func f z h E S u I=>exact .func f z (fun i x y p q=>u i x y p q) E (fun i x y p q=>I i x y p q)
 |nilIface=>exact .nilIface
 |iface t h u=>exact .iface t u
 |agg z h u=>exact .agg z (fun i x y p q=>u i x y p q)
 |tuple z h u=>exact .tuple z (fun i x y p q=>u i x y p q)
 |lost v=>exact .lost v
theorem VRs.mono{φ u:List Loc}(z:Ext φ u){a b:LV}(h:VRs φ a b):VRs u a b:=⟨h.1,fun i x y p q=>(h.2 i x y p q).mono z⟩
theorem VRs.nil(φ:List Loc):VRs φ [] []:=⟨rfl,fun i x y p=>by simp at p⟩
theorem VRs.cons{φ:List Loc}{x y:Value}{xs u:LV}(h:VR φ x y)(k:VRs φ xs u):VRs φ (x::xs) (y::u):=
 ⟨by simp [k.1],fun i a b p q=>by
  cases i with
  |zero=>simp at p q;subst p;subst q;exact h
  |succ i=>simp at p q;exact k.2 i a b p q⟩
theorem VRs.of_cons{φ:List Loc}{x:Value}{xs z:LV}(h:VRs φ (x::xs) z):∃y u,z=y::u/\VR φ x y/\VRs φ xs u:=by
 cases z with
 |nil=>have:=h.1;simp at this
 |cons y u=>
  refine⟨y,u,rfl,h.2 0 x y sM sM,by have:=h.1;simpa using this,fun i a b p q=>h.2 (i+1) a b (by simpa using p) (by simpa using q)⟩
theorem VRs.of_nil{φ:List Loc}{u:LV}(h:VRs φ [] u):u=[]:=by
 have:=h.1;cases u with
 |nil=>rfl
 |cons _ _=>simp at this
theorem VRs.append{φ:List Loc}{a b c d:LV}(h:VRs φ a b)(k:VRs φ c d):VRs φ (a++c) (b++d):=by
 induction a generalizing b with
 |nil=>rw[h.of_nil];simpa using k
 |cons x xs D=>obtain⟨y,E,rfl,u,z⟩:=h.of_cons;simpa using VRs.cons u (D z)
theorem VRs.get{φ:List Loc}{a b:LV}(h:VRs φ a b){i:Nat}{x:Value}(z:a[i]?=some x):∃y,b[i]?=some y/\VR φ x y:=by
 have D:i<a.length:=(gS z).1;have u:i<b.length:=by rw[<-h.1];exact D
 exact⟨b[i],by simp [u],h.2 i x b[i] z (by simp [u])⟩
theorem VRs.take{φ:List Loc}{a b:LV}(h:VRs φ a b)(n:Nat):VRs φ (a.take n) (b.take n):=
 ⟨by simp [h.1],fun i x y p q=>by
  rw[List.getElem?_take]at p q;split at p
  .rename_i u;rw[if_pos u]at q;exact h.2 i x y p q
  .simp at p⟩
theorem VRs.drop{φ:List Loc}{a b:LV}(h:VRs φ a b)(n:Nat):VRs φ (a.drop n) (b.drop n):=
 ⟨by simp [h.1],fun i x y p q=>by rw[List.getElem?_drop]at p q;exact h.2 _ x y p q⟩
theorem VRs.map{φ:List Loc}{α:Type}(f g:α->Value)(l:List α)(h:∀x∈l,VR φ (f x) (g x)):VRs φ (l.map f) (l.map g):=by
 induction l with
 |nil=>exact .nil φ
 |cons x xs z=>exact .cons (h x sM) (z fun y u=>h y (by simp [u]))
theorem VRs.set{φ:List Loc}{a b:LV}(h:VRs φ a b)(i:Nat){x y:Value}(I:VR φ x y):VRs φ (a.set i x) (b.set i y):=
 ⟨by simp [h.1],fun j p q u z=>by
  rw[List.getElem?_set]at u z;by_cases D:i=j
  .subst D;rw[if_pos rfl]at u z;by_cases E:i<a.length
   .rw[if_pos E]at u;rw[if_pos (by rw[<-h.1];exact E)]at z;cases u;cases z;exact I
   .rw[if_neg E]at u;cases u
  .rw[if_neg D]at u z;exact h.2 j p q u z⟩
theorem VR.toAgg{φ:List Loc}{a b:LV}(h:VRs φ a b):VR φ (.agg a.toArray) (.agg b.toArray):= .agg (by simpa using h.1) (by simpa using h.2)
theorem VR.toTuple{φ:List Loc}{a b:LV}(h:VRs φ a b):VR φ (.tuple a.toArray) (.tuple b.toArray):= .tuple (by simpa using h.1) (by simpa using h.2)
theorem VR.na0{φ:List Loc}{v:Value}(h:na0 v=true):VR φ v v:=by
 unfold Ve.na0 at h;split at h
 .exact .bool _
 .exact .int _ _
 .exact .string _
 .exact .nilptr
 .exact .nilslice
 .exact .nilmap
 .exact .nilFunc
 .exact .nilIface
 .rename_i f a c;simp only[Bool.and_eq_true,Array.isEmpty_iff]at h;obtain⟨rfl,rfl⟩:=h;exact .func _ rfl (fun i x y p=>by simp at p) rfl (fun i x y p=>by simp at p)
 .cases h
theorem VR.na1{φ:List Loc}{v:Value}(h:na1 v=true):VR φ v v:=by
 unfold Ve.na1 at h;split at h
 .refine .agg rfl fun i x y p q=>?_;rw[p]at q;cases q;exact VR.na0 (List.all_eq_true.1 h x (mG p))
 .exact .iface _ (VR.na0 h)
 .exact VR.na0 h
theorem VR.na{φ:List Loc}{v:Value}(h:L9 v=true):VR φ v v:=by
 unfold L9 at h;split at h
 .refine .tuple rfl fun i x y p q=>?_;rw[p]at q;cases q;exact VR.na1 (List.all_eq_true.1 h x (mG p))
 .exact VR.na1 h
theorem VR.undef'(φ:List Loc):VR φ undef undef:=VR.na (by rfl)
theorem VR.eq_na0{φ:List Loc}{v v':Value}(h:VR φ v v')(u:Ve.na0 v=true):v'=v:=by
 cases h<;>first|rfl|(simp [Ve.na0]at u;done)|skip
 case func f a a' c y z h D E=>
  simp only[Ve.na0,Bool.and_eq_true,Array.isEmpty_iff]at u;obtain⟨rfl,rfl⟩:=u;have:a'= #[]:=Array.eq_empty_of_size_eq_zero (by simpa using z.symm);have:y= #[]:=Array.eq_empty_of_size_eq_zero (by simpa using D.symm)
  subst_vars;rfl
 case lost=>cases u
theorem nP{φ:List Loc}{P:Value->Bool}(E:∀v v',VR φ v v'->P v=true->v'=v) {a b:LV} (h:VRs φ a b) (u:a.all P=true):b=a:=by
 induction a generalizing b with
 |nil=>exact h.of_nil
 |cons x xs I=>
  obtain⟨y,J,rfl,z,D⟩:=h.of_cons;simp only[List.all_cons,Bool.and_eq_true]at u;rw[E _ _ z u.1,I D u.2]
theorem VR.eq_na1{φ:List Loc}{v v':Value}(h:VR φ v v')(y:Ve.na1 v=true):v'=v:=by
 by_cases z:∃a,v= .agg a
 .obtain⟨a,rfl⟩:=z;cases h with
  |agg E h=>
   rename_i a';have:=nP (fun _ _=>VR.eq_na0) ⟨E,h⟩ y;rw[Array.toList_inj.1 this]
 .by_cases D:∃t u,v= .iface t u
  .obtain⟨t,u,rfl⟩:=D;cases h with
   |iface _ h=>rw[VR.eq_na0 h y]
  .refine VR.eq_na0 h ?_;unfold Ve.na1 at y;split at y
   .exact absurd ⟨_,rfl⟩ z
   .exact absurd ⟨_,_,rfl⟩ D
   .exact y
theorem VR.eq_na{φ:List Loc}{v v':Value}(h:VR φ v v')(u:L9 v=true):v'=v:=by
 by_cases y:∃a,v= .tuple a
 .obtain⟨a,rfl⟩:=y;cases h with
  |tuple z h=>
   have:=nP (fun _ _=>VR.eq_na1) ⟨z,h⟩ u;rw[Array.toList_inj.1 this]
  |lost=>cases u
 .refine VR.eq_na1 h ?_;unfold L9 at u;split at u
  .exact absurd ⟨_,rfl⟩ y
  .exact u
theorem VR.cells{φ:List Loc}{v v':Value}(h:VR φ v v')(z:v.cells.toList.all oC=true):VRs φ v.cells.toList v'.cells.toList:=by
 cases h with
 |agg u h=>exact⟨u,h⟩
 |bool b=>exact .cons (.bool b) (.nil φ)
 |int k n=>exact .cons (.int k n) (.nil φ)
 |string s=>exact .cons (.string s) (.nil φ)
 |nilptr=>exact .cons .nilptr (.nil φ)
 |ptr h=>exact .cons (.ptr h) (.nil φ)
 |nilslice=>exact .cons .nilslice (.nil φ)
 |slice0=>exact .cons .slice0 (.nil φ)
 |exact h=>exact .cons (.exact h) (.nil φ)
 |slice h E y=>exact .cons (.slice h E y) (.nil φ)
 |nilmap=>exact .cons .nilmap (.nil φ)
 |map h=>exact .cons (.map h) (.nil φ)
 |nilFunc=>exact .cons .nilFunc (.nil φ)
 |func f u h y D=>exact .cons (.func f u h y D) (.nil φ)
 |nilIface=>exact .cons .nilIface (.nil φ)
 |iface t h=>exact .cons (.iface t h) (.nil φ)
 |tuple u h=>exact .cons (.tuple u h) (.nil φ)
 |lost=>cases z
theorem VR.oneCell{φ:List Loc}{v v':Value}(h:VR φ v v')(u:v.oneCell'=true):v'.oneCell'=v.oneCell':=by
 cases h<;>first|rfl|cases u
structure Bel(base:Nat->Prop)(w w':World):Prop where
 os:w'.os=w.os
 tape:w'.tape=w.tape
 output:w'.output=w.output
 size:w.heap.size<=w'.heap.size
 block:∀k,base k->w'.heap[k]?=w.heap[k]?
theorem Bel.refl(base:Nat->Prop)(w:World):Bel base w w:=⟨rfl,rfl,rfl,lR,fun _ _=>rfl⟩
theorem Bel.drew{base:Nat->Prop}{a w:World}(h:Bel base a w):Bel base a w.drew:=⟨h.os,h.tape,h.output,h.size,h.block⟩
theorem Bel.alloc{base:Nat->Prop}{a w:World}(h:Bel base a w)(y:∀k,base k->k<w.heap.size) (o:Obj):Bel base a (w.alloc o):=
 ⟨h.os,h.tape,h.output,Nat.le_trans h.size sM,fun k u=>by rw[Below.heap_alloc _ _ _ (y k u)];exact h.block k u⟩
theorem Bel.below{n:Nat}{w u:World}(h:Bel (· <n) w u):Below n w u:=⟨h.os,h.tape,h.output,h.size,h.block⟩
theorem dV{base:Nat->Prop}{n:Nat}(h:∀k,base k->k<n):¬base n:=fun q=>Nat.lt_irrefl _ (h n q)
structure Bs where
 ro:Nat->Prop
 pr:Nat->Prop
 sub:∀k,ro k->pr k
def Bs.lt(n:Nat):Bs:=⟨(· <n),(· <n),fun _ h=>h⟩
def Blk.mine:Blk->Bool
 | .cells _ own _=>own
 | .dead=>false
 |_=>true
def BR(base:Bs)(φ:List Loc)(B:Blk)(l:Loc)(w:World):Prop:=
 match B with
 | .dead=>True
 | .cells c own sz=>l.sz=sz/\(∀x∈c,x.oneCell'=true)/\(∀(i:Nat) x,c[i]?=some x->∃y,w.cell? ⟨l.blk,l.off+i,none⟩=some y/\VR φ x y)/\
  (own=false->base.ro l.blk)/\
  (own=true->¬base.pr l.blk/\c.length<=l.cap/\∃cs t fz,w.heap[l.blk]?=some (.cells cs t fz)/\l.off+l.cap<=cs.size/\∀i,i<l.off+l.cap->w.frozen? ⟨l.blk,i,none⟩=false)
 | .map es=>¬base.pr l.blk/\∃es' cl,w.heap[l.blk]?=some (.map es' cl)/\es'.size=es.length/\
   ∀(i:Nat) k v m,es[i]?=some (k,v)->es'.toList[i]?=some m->VR φ k m.key/\VR φ v m.val
 | .iter s p=>¬base.pr l.blk/\l.off=0/\w.heap[l.blk]?=some (.stringIter s p)
structure WR(base:Bs)(w0:World)(φ:List Loc)(S:List Blk)(w:World):Prop where
 len:φ.length=S.length
 below:Bel base.pr w0 w
 size:∀k,base.pr k->k<w.heap.size
 blk:∀(b:Nat) B l,S[b]?=some B->φ[b]?=some l->BR base φ B l w
 sep:∀(b b':Nat) B B' l l',b≠b'->S[b]?=some B->S[b']?=some B'->B.mine=true->B'.mine=true->φ[b]?=some l->φ[b']?=some l'->l.blk≠l'.blk
theorem BR.mono{base:Bs}{φ W:List Loc}{B:Blk}{l:Loc}{w E:World}(S:Ext φ W)(u:E.heap[l.blk]?=w.heap[l.blk]?)(h:BR base φ B l w):BR base W B l E:=by
 have hc:∀i,E.cell? ⟨l.blk,i,none⟩=w.cell? ⟨l.blk,i,none⟩:=fun i=>World.cell?_of_block (w:=w) u;have hf:∀i,E.frozen? ⟨l.blk,i,none⟩=w.frozen? ⟨l.blk,i,none⟩:=fun i=>World.frozen?_of_block (w:=w) u;cases B with
 |dead=>trivial
 |cells c own sz=>
  obtain⟨h0,z,J,O,D⟩:=h;refine⟨h0,z,fun i x U=>?_,O,fun ho=>?_⟩
  .obtain⟨y,p,q⟩:=J i x U;exact⟨y,by rw[hc];exact p,q.mono S⟩
  .obtain⟨a,b,cs,t,fz,c1,c2,X⟩:=D ho;exact⟨a,b,cs,t,fz,by rw[u];exact c1,c2,fun i hi=>by rw[hf];exact X i hi⟩
 |map es=>
  obtain⟨a,I,cl,J,O,D⟩:=h;exact⟨a,I,cl,by rw[u];exact J,O,fun i k v m p q=>⟨(D i k v m p q).1.mono S,(D i k v m p q).2.mono S⟩⟩
 |iter s p=>exact⟨h.1,h.2.1,by rw[u];exact h.2.2⟩
theorem BR.lt{base:Bs}{φ:List Loc}{B:Blk}{l:Loc}{w:World}(h:BR base φ B l w)(u:B.mine=true):¬base.pr l.blk/\l.blk<w.heap.size:=by
 have key:∀o,w.heap[l.blk]?=some o->l.blk<w.heap.size:=fun o D=>(gA D).1;cases B with
 |dead=>cases u
 |cells c own sz=>
  simp only[Blk.mine]at u;obtain⟨a,b,cs,t,J,c1,_⟩:=h.2.2.2.2 u;exact⟨a,key _ c1⟩
 |map I=>obtain⟨a,y,E,z,_⟩:=h;exact⟨a,key _ z⟩
 |iter s p=>exact⟨h.1,key _ h.2.2⟩
theorem BR.below{base:Bs}{φ:List Loc}{c:LV}{sz:Nat}{l:Loc}{w:World}(h:BR base φ (.cells c false sz) l w):base.pr l.blk:=base.sub _ (h.2.2.2.1 rfl)
def But(w w':World)(k:Option Nat):Prop:=w.heap.size<=w'.heap.size/\∀j,j<w.heap.size->k≠some j->w'.heap[j]?=w.heap[j]?
def Fr(φ:List Loc)(S:List Blk)(low:Nat)(w w':World):Prop:=
 ∀(b:Nat) B l,b<low->S[b]?=some B->B≠ .dead->φ[b]?=some l->w'.heap[l.blk]?=w.heap[l.blk]?
structure Cls(base:Bs)(w0:World)(φ:List Loc)(S:List Blk)(w w':World):Prop where
 wr:WR base w0 φ S w'
 same:∀(b:Nat) B l,S[b]?=some B->B≠ .dead->φ[b]?=some l->w'.heap[l.blk]?=w.heap[l.blk]?
theorem WR.cls{base:Bs}{w0:World}{φ:List Loc}{S:List Blk}{w:World}(h:WR base w0 φ S w):Cls base w0 φ S w w:=⟨h,fun _ _ _ _ _ _=>rfl⟩
theorem WR.loc{base:Bs}{w0:World}{φ:List Loc}{S:List Blk}{w:World}(h:WR base w0 φ S w){b:Nat}{B:Blk}(u:S[b]?=some B):∃l,φ[b]?=some l/\BR base φ B l w:=by
 have y:b<φ.length:=by rw[h.len];exact(gS u).1
 exact⟨φ[b],by simp [y],h.blk b B _ u (by simp [y])⟩
theorem WR.same_heap{base:Bs}{w0:World}{φ:List Loc}{S:List Blk}{w u:World}(h:WR base w0 φ S w)(y:u.heap=w.heap)(D:u.os=w.os)(E:u.tape=w.tape)(I:u.output=w.output):WR base w0 φ S u:=
 ⟨h.len,⟨D.trans h.below.os,E.trans h.below.tape,I.trans h.below.output,by rw[y];exact h.below.size,fun k z=>by rw[y];exact h.below.block k z⟩,
  by rw[y];exact h.size,fun b B l p q=>(h.blk b B l p q).mono (Ext.refl φ) (by rw[y]),h.sep⟩
theorem WR.push{base:Bs}{w0:World}{φ:List Loc}{S:List Blk}{w E:World}(h:WR base w0 φ S w){B:Blk}{l:Loc}
  (X:But w E none) (hb:Bel base.pr w0 E) (hl:B.mine=true->w.heap.size<=l.blk) (hB:BR base (φ++[l]) B l E):WR base w0 (φ++[l]) (S++[B]) E:=by
 have hx:Ext φ (φ++[l]):=Ext.snoc φ l;have old:∀(b:Nat) u y,S[b]?=some u->φ[b]?=some y->BR base (φ++[l]) u y E:=by
  intro b u y p q;have z:=h.blk b u y p q;by_cases hd:u= .dead
  .subst hd;trivial
  .refine z.mono hx ?_;by_cases I:u.mine=true
   .exact X.2 _ (z.lt I).2 sM
   .cases u with
    |dead=>exact absurd rfl hd
    |cells c own sz=>
     have:own=false:=by simpa [Blk.mine] using I
     subst this;exact X.2 _ (h.size _ z.below) sM
    |map es=>exact absurd rfl I
    |iter s p=>exact absurd rfl I
 have split:∀(b:Nat) u y,(S++[B])[b]?=some u->(φ++[l])[b]?=some y->(S[b]?=some u/\φ[b]?=some y)\/(b=S.length/\u=B/\y=l):=by
  intro b u y p q;by_cases D:b<S.length
  .left
   rw[List.getElem?_append_left D]at p;rw[List.getElem?_append_left (by rw[h.len];exact D)]at q;exact⟨p,q⟩
  .right
   have:b<(S++[B]).length:=(gS p).1;simp at this;have U:b=S.length:=oM;subst U;have h1:(φ++[l])[S.length]?=some l:=by rw[<-h.len];simp
   rw[h1]at q;simp at p q;exact⟨rfl,p.symm,q.symm⟩
 refine⟨by simp [h.len],hb,fun k hk=>Nat.lt_of_lt_of_le (h.size k hk) X.1,fun b u y p q=>?_,fun b O B1 J l1 l2 W p1 p2 m1 m2 q1 q2=>?_⟩
 .rcases split b u y p q with⟨p,q⟩|⟨rfl,rfl,rfl⟩
  .exact old b u y p q
  .exact hB
 .rcases split b B1 l1 p1 q1 with⟨x1,y1⟩|⟨r1,r2,r3⟩<;>rcases split O J l2 p2 q2 with⟨x2,y2⟩|⟨s1,s2,s3⟩
  .exact h.sep b O B1 J l1 l2 W x1 x2 m1 m2 y1 y2
  .have:=((h.blk b B1 l1 x1 y1).lt m1).2;have:=hl (s2▸m2);rw[s3];omega
  .have:=((h.blk O J l2 x2 y2).lt m2).2;have:=hl (r2▸m1);rw[r3];omega
  .omega
theorem WR.put{base:Bs}{w0:World}{φ:List Loc}{S:List Blk}{w w':World}(h:WR base w0 φ S w){b:Nat}{B E:Blk}{l:Loc}(J:S[b]?=some B)(W:φ[b]?=some l)(X:B.mine=true)
  (hw:But w w' (some l.blk)) (O:Bel base.pr w0 w') (hB:BR base φ E l w'):WR base w0 φ (S.set b E) w':=by
 have I:∀(c:Nat) C,(S.set b E)[c]?=some C->(c=b/\C=E)\/(c≠b/\S[c]?=some C):=by
  intro c C p;rw[List.getElem?_set]at p;by_cases u:b=c
  .subst u;rw[if_pos rfl,if_pos (gS J).1]at p;exact .inl ⟨rfl,by simpa using p.symm⟩
  .rw[if_neg u]at p;exact .inr ⟨fun e=>u e.symm,p⟩
 have a4:=(h.blk b B l J W).lt X;refine⟨by simp [h.len],O,fun k hk=>Nat.lt_of_lt_of_le (h.size k hk) hw.1,fun c C lc p q=>?_,fun c c' C C' lc U a3 p p' m m' q q'=>?_⟩
 .rcases I c C p with⟨rfl,rfl⟩|⟨u,p⟩
  .rw[W]at q;cases q;exact hB
  .have z:=h.blk c C lc p q;by_cases hd:C= .dead
   .subst hd;trivial
   .refine z.mono (Ext.refl φ) ?_;by_cases y:C.mine=true
    .exact hw.2 _ (z.lt y).2 (by simp only[ne_eq,Option.some.injEq];exact h.sep b c B C l lc (fun e=>u e.symm) J p X y W q)
    .cases C with
     |dead=>exact absurd rfl hd
     |cells cc own sz=>
      have:own=false:=by simpa [Blk.mine] using y
      subst this;have:=z.below;exact hw.2 _ (h.size _ this) (by simp only[ne_eq,Option.some.injEq];exact fun q=>((h.blk b B l J W).lt X).1 (q▸this))
     |map es=>exact absurd rfl y
     |iter s p=>exact absurd rfl y
 .have key:∀(c:Nat) C lc,(S.set b E)[c]?=some C->C.mine=true->φ[c]?=some lc->∃D,S[c]?=some D/\D.mine=true:=by
   intro c C lc p m q;rcases I c C p with⟨rfl,rfl⟩|⟨_,p⟩
   .exact⟨B,J,X⟩
   .exact⟨C,p,m⟩
  obtain⟨D,d1,d2⟩:=key c C lc p m q;obtain⟨D',a1,a2⟩:=key c' C' U p' m' q';exact h.sep c c' D D' lc U a3 d1 a1 d2 a2 q q'
theorem WR.kill{base:Bs}{w0:World}{φ:List Loc}{S:List Blk}{w:World}(h:WR base w0 φ S w)(b:Nat):WR base w0 φ (S.set b .dead) w:=by
 have u:∀(c:Nat) C,(S.set b .dead)[c]?=some C->C= .dead\/(c≠b/\S[c]?=some C):=by
  intro c C p;rw[List.getElem?_set]at p;by_cases y:b=c
  .subst y;rw[if_pos rfl]at p;split at p
   .exact .inl (by simpa using p.symm)
   .cases p
  .rw[if_neg y]at p;exact .inr ⟨fun e=>y e.symm,p⟩
 refine⟨by simp [h.len],h.below,h.size,fun c C lc p q=>?_,fun c J C I lc D z p E m O q U=>?_⟩
 .rcases u c C p with rfl|⟨_,p⟩
  .trivial
  .exact h.blk c C lc p q
 .rcases u c C p with rfl|⟨_,p⟩
  .cases m
  .rcases u J I E with rfl|⟨_,E⟩
   .cases O
   .exact h.sep c J C I lc D z p E m O q U
theorem WR.cell{base:Bs}{w0:World}{φ:List Loc}{S:List Blk}{w:World}(h:WR base w0 φ S w){b:Nat}{c:LV}{own:Bool}{sz:Nat}(J:S[b]?=some (.cells c own sz)):
  ∃l U,φ[b]?=some l/\VRs φ c U/\(∀I,Cls base w0 φ S w I->∀(i:Nat) y,U[i]?=some y->I.cell? ⟨l.blk,l.off+i,none⟩=some y)/\l.sz=sz:=by
 obtain⟨l,O,u⟩:=h.loc J;refine⟨l,c.zipIdx.map fun(_,i)=>(w.cell? ⟨l.blk,l.off+i,none⟩).getD undef,O,⟨by simp,fun i x y p q=>?_⟩,fun I W i y q=>?_,u.1⟩
 .obtain⟨z,D,X⟩:=u.2.2.1 i x p;simp [p,D]at q;subst q;exact X
 .simp only[List.getElem?_map,List.getElem?_zipIdx,Option.map_map,Nat.zero_add]at q;cases E:c[i]? with
  |none=>simp [E]at q
  |some x=>
   obtain⟨z,D,_⟩:=u.2.2.1 i x E;simp [E,D]at q;subst q;rw[World.cell?_of_block (w:=w) (W.same b _ l J sM O)];exact D
section
variable{P:Program}
theorem C1{t:TypeId}{s:Nat}(h:D8 P t=some s)(w:World):(sizeOf t).run P w= .ok s w:=by
 unfold D8 at h;cases u:P.info? t with
 |none=>simp [u]at h
 |some i=>simp [u]at h;simp [sizeOf,typeInfo,u,h]
theorem P1{t:TypeId}{b:Bool}(h:bT P t=some b)(w:World):(isAgg t).run P w= .ok b w:=by
 unfold bT at h;cases u:P.underlying t with
 |none=>simp [u]at h
 |some d=>cases d<;>simp_all [isAgg,run_underlying u]
theorem aF{t:TypeId}{z:Value}(h:iP P t=some z)(w:World):(zeroValue t).run P w= .ok z w/\na1 z=true:=by
 unfold iP at h;cases u:P.info? t with
 |none=>simp [u]at h
 |some i=>
  cases y:i.zero with
  |none=>simp [u,y]at h
  |some E=>
   simp [u,y]at h;obtain⟨D,rfl⟩:=h;exact⟨by simp [zeroValue,typeInfo,u,y],D⟩
theorem cL{t:TypeId}{z:LV}(h:O9 P t=some z)(w:World):∃E,(zeroValue t).run P w= .ok E w/\E.cells.toList=z/\z.all na0=true/\D8 P t=some z.length:=by
 unfold O9 at h;cases u:P.info? t with
 |none=>simp [u]at h
 |some i=>
  cases D:i.zero with
  |none=>simp [u,D]at h
  |some I=>
   simp only[u,D,Option.bind_some]at h;split at h
   .rename_i y;cases h;simp only[Bool.and_eq_true,beq_iff_eq]at y;exact⟨I,by simp [zeroValue,typeInfo,u,D],rfl,y.1,by simpa using y.2⟩
   .cases h
theorem VRs.na0{φ:List Loc}{l:LV}(h:l.all na0=true):VRs φ l l:=
 ⟨rfl,fun i x y p q=>by rw[p]at q;cases q;exact VR.na0 (List.all_eq_true.1 h x (mG p))⟩
end
def iW(P:Program)(base:Bs)(w0:World)(φ:List Loc)(S:List Blk)(w:World)(s:Sem Value)(v:Value):Prop:=
 ∃v',VR φ v v'/\∀w',Cls base w0 φ S w w'->s.run P w'= .ok v' w'
section
variable{P:Program}{base:Bs}{w0:World}{φ:List Loc}{S:List Blk}{w:World}
theorem iW.const{s:Sem Value}{v v':Value}(h:VR φ v v')(hs:∀u,s.run P u= .ok v' u):iW P base w0 φ S w s v:=⟨v',h,fun u _=>hs u⟩
theorem kG{H:d8}(D:WR base w0 φ H.bs w){b:Nat}{c:LV}{own:Bool}{sz:Nat}(I:H.get b=some (.cells c own sz)){l:Loc}(J:φ[b]?=some l):
  ∃u,VRs φ c u/\∀z,Cls base w0 φ H.bs w z->∀(i:Nat) y,u[i]?=some y->z.cell? ⟨l.blk,l.off+i,none⟩=some y:=by
 obtain⟨U,u,h,O,E,_⟩:=D.cell I;rw[J]at h;cases h;exact⟨u,O,E⟩
theorem qJ{I:World}{b o:Nat}{D:LV}(h:∀(i:Nat) y,D[i]?=some y->I.cell? ⟨b,o+i,none⟩=some y) (n:Nat) (k:Nat) (J:n+k<=D.length):
  (loadCells ⟨b,o+n,none⟩ k).run P I= .ok ((D.drop n).take k).toArray I:=by
 have z:((D.drop n).take k).length=k:=by simp;omega
 have:=run_loadCells_list (P:=P) I ⟨b,o+n,none⟩ ((D.drop n).take k) (fun j v E=>by
  have u:(⟨b,o+n,none⟩:Addr).add j=⟨b,o+n+j,none⟩:=by unfold Addr.add;split<;>simp_all
  rw[u,Nat.add_assoc];refine h _ _ ?_;rw[List.getElem?_take]at E;split at E
  .rwa [List.getElem?_drop]at E
  .cases E)
 rwa [z]at this
theorem uN{t:TypeId}{H:d8}{a a' v:Value}(O:WR base w0 φ H.bs w)(h:ld P t H a=some v)(U:VR φ a a'):iW P base w0 φ H.bs w (Instr.loadAt t a') v:=by
 unfold ld at h;split at h
 rotate_left
 .cases h
 rename_i b o;split at h
 rotate_left
 .cases h
 rename_i c own sz W;cases U with
 |ptr X=>
  rename_i l;obtain⟨ys,E,J⟩:=kG O W X;split at h
  .rename_i u;split at h
   rotate_left
   .cases h
   rename_i s hs;split at h
   rotate_left
   .cases h
   rename_i D;cases h;refine⟨.agg ((ys.drop o).take s).toArray,VR.toAgg ((E.drop o).take s),fun I z=>?_⟩;simp only[Instr.loadAt,Instr.sureAddr,loadVar,Sem.run_bind,Sem.run_pure,Result.andThen_ok,P1 u,if_true,C1 hs,
    qJ (J I z) o s (by rw[<-E.1];exact D)]
  .rename_i u;obtain⟨y,hy,hr⟩:=E.get h;refine⟨y,hr,fun I z=>?_⟩;simp only[Instr.loadAt,Instr.sureAddr,loadVar,Sem.run_bind,Sem.run_pure,Result.andThen_ok,P1 u,bF,run_load,J I z o y hy]
  .cases h
theorem fN{u I:List Q5}{xs z:LV}{b:Bool}(h:A6 (u++I) xs z=some b):
  ∃D E,A6 u (xs.take u.length) (z.take u.length)=some D/\A6 I (xs.drop u.length) (z.drop u.length)=some E/\b=(D&&E):=by
 induction u generalizing xs z b with
 |nil=>exact⟨true,b,by simp [A6],by simpa using h,by simp⟩
 |cons k u X=>
  cases xs with
  |nil=>simp [A6]at h
  |cons x xs=>
   cases z with
   |nil=>simp [A6]at h
   |cons y z=>
    simp only[List.cons_append,A6]at h;split at h
    .rename_i a b' U W;cases h;obtain⟨D,E,J,O,rfl⟩:=X W;exact⟨a&&D,E,by simp [A6,U,J],by simpa using O,by rw[Bool.and_assoc]⟩
    .cases h
theorem de{z:List Q5}{xs u:LV}{b:Bool}(h:A6 z xs u=some b):xs.length=z.length/\u.length=z.length:=by
 induction z generalizing xs u b with
 |nil=>cases xs<;>cases u<;>simp_all [A6]
 |cons k z E=>
  cases xs with
  |nil=>simp [A6]at h
  |cons x xs=>
   cases u with
   |nil=>simp [A6]at h
   |cons y u=>
    simp only[A6]at h;split at h
    .rename_i D;have:=E D;simp [this.1,this.2]
    .cases h
theorem fS{d:Nat}{t:TypeId}{J:List Q5}(h:X7 P (d+1) t=some J)(I:bT P t=some false):
  ∃k,J=[k]/\∀D z E b(w:World),N6 k z E=some b->(Op.equalIn (D+1) t z E).run P w= .ok b w:=by
 unfold X7 at h;unfold bT at I;split at h
 .rename_i y;cases h;refine⟨_,rfl,fun D z E b w u=>?_⟩;unfold N6 at u;split at u<;>first|(simp_all;done)|skip
  cases u;exact run_equalIn_bool' w D t _ _ y
 .rename_i k y;cases h;refine⟨_,rfl,fun D z E b w u=>?_⟩;unfold N6 at u;split at u<;>first|(simp_all;done)|skip
  split at u
  .rename_i O;subst O;cases u;exact run_equalIn_int w D t _ k _ _ y
  .cases u
 .rename_i y;cases h;refine⟨_,rfl,fun D z E b w u=>?_⟩;unfold N6 at u;split at u<;>first|(simp_all;done)|skip
  cases u;rw[run_equalIn_string w D t _ _ y,beq_toListBytes]
 .rename_i y;simp [y]at I
 .cases h
theorem uu{d:Nat}:∀{t:TypeId}{ks:List Q5},X7 P d t=some ks->bT P t=some true->
  ∀D,d<=D->∀(xs E:Array Value) b(w:World),A6 ks xs.toList E.toList=some b->(Op.equalIn D t (.agg xs) (.agg E)).run P w= .ok b w:=by
 induction d with
 |zero=>intro t ks h;simp [X7]at h
 |succ d ih=>
  intro t ks h ha D hD xs E b w hc;obtain⟨D,rfl⟩:∃m,D=m+1:=⟨D-1,oM⟩
  unfold X7 at h;unfold bT at ha;split at h<;>first|(rename_i hu;simp [hu]at ha;done)|(rename_i k hu;simp [hu]at ha;done)|(cases h;done)|skip
  rename_i fs hu;split at h
  .cases h
  rename_i a5;have hf:P.underlying t=some (.struct (P.fieldsOf t)):=by simp [Program.fieldsOf,hu]
  have a3:P.fieldsOf t=fs:=by simp [Program.fieldsOf,hu]
  rw[run_equalIn_struct w D t xs E hf (by simpa using a5),a3];have key:∀(fl:List Field)(n:Nat)(r:List Q5)(b:Bool),iz P (X7 P d) fl n=some r->A6 r (xs.toList.drop n) (E.toList.drop n)=some b->
    (Op.eqFields D xs E fl).run P w= .ok b w:=by
   intro fl;induction fl with
   |nil=>intro n r b u h2;simp [iz]at u;subst u;have:=de h2;cases hx:xs.toList.drop n<;>cases hy:E.toList.drop n<;>simp_all [A6,Op.eqFields]
   |cons f fl a9=>
    intro n r b u h2;simp only[iz]at u;split at u
    rotate_left
    .cases u
    rename_i hn;split at u
    rotate_left
    .cases u
    rename_i m W;split at u
    rotate_left
    .cases u
    rename_i hs;simp only[Option.map_eq_some_iff]at u;obtain⟨r',a4,rfl⟩:=u;obtain⟨b1,b2,U,e2,rfl⟩:=fN h2;rw[List.drop_drop]at e2;rw[List.drop_drop]at e2;have a1:=a9 _ _ _ a4 e2;have J:=de U;have O:∃a c,(part f.type xs f.offset).run P w= .ok a w/\(part f.type E f.offset).run P w= .ok c w/\(Op.equalIn D f.type a c).run P w= .ok b1 w:=by
     have I:∃d',d=d'+1:=by cases d with
      |zero=>simp [X7]at W
      |succ d'=>exact⟨d',rfl⟩
     obtain⟨d',rfl⟩:=I;have a2:∃q,bT P f.type=some q:=by
      unfold bT;unfold X7 at W;split at W<;>rename_i a6<;>first|exact⟨_,by rw[a6]⟩|cases W
     obtain⟨q,X⟩:=a2;cases q with
     |true=>
      refine⟨.agg (xs.extract f.offset (f.offset+m.length)),.agg (E.extract f.offset (f.offset+m.length)),by simp [part,P1 X,C1 hs],by simp [part,P1 X,C1 hs],?_⟩;refine ih W X D oM _ _ _ w ?_;rw[hn.2]
      simpa [List.take_drop] using U
     |false=>
      obtain⟨k,rfl,hk⟩:=fS W X;obtain⟨D',rfl⟩:∃z,D=z+1:=⟨D-1,oM⟩
      simp only[List.length_cons,List.length_nil,Nat.zero_add]at U J;obtain⟨x,hx⟩:∃x,(xs.toList.drop n).take 1=[x]:=List.length_eq_one_iff.1 J.1;obtain⟨y,hy⟩:∃y,(E.toList.drop n).take 1=[y]:=List.length_eq_one_iff.1 J.2;rw[hx,hy]at U;have a7:xs[f.offset]?=some x:=by
       have:((xs.toList.drop n).take 1)[0]?=some x:=by rw[hx];rfl
       rw[hn.2];simpa [List.getElem?_take,List.getElem?_drop] using this
      have a8:E[f.offset]?=some y:=by
       have:((E.toList.drop n).take 1)[0]?=some y:=by rw[hy];rfl
       rw[hn.2];simpa [List.getElem?_take,List.getElem?_drop] using this
      refine⟨x,y,by simp [part,P1 X,a7],by simp [part,P1 X,a8],hk D' x y b1 w ?_⟩;unfold A6 at U;split at U<;>simp_all [A6]
    obtain⟨a,c,s1,s2,s3⟩:=O;simp only[Op.eqFields,hn.1,ne_eq,not_false_eq_true,if_true,Sem.run_bind,s1,s2,s3,Result.andThen_ok];cases b1
    .simp
    .simpa using a1
  exact key fs.toList 0 ks b h (by simpa using hc)
theorem S7{t:TypeId}{u:List Q5}(h:vJ P t=some u):P.eqGuardType P.depth t=false/\X7 P 9 t=some u:=by
 unfold vJ at h;split at h
 .cases h
 .rename_i y;exact⟨by simpa using y,h⟩
theorem jY{k:Q5}{x y u z:Value}{b:Bool}(h:N6 k x y=some b)(D:VR φ x u)(E:VR φ y z):u=x/\z=y:=by
 unfold N6 at h;split at h<;>first|(cases h;done)|(cases D;cases E;exact⟨rfl,rfl⟩)
theorem iu{D:List Q5}{xs u xs' z:LV}{b:Bool}(h:A6 D xs u=some b)(E:VRs φ xs xs')(I:VRs φ u z):xs'=xs/\z=u:=by
 induction D generalizing xs u xs' z b with
 |nil=>cases xs<;>cases u<;>simp [A6]at h;exact⟨E.of_nil,I.of_nil⟩
 |cons k D U=>
  cases xs with
  |nil=>simp [A6]at h
  |cons x xs=>
   cases u with
   |nil=>simp [A6]at h
   |cons y u=>
    simp only[A6]at h;split at h
    .rename_i a c J O;obtain⟨x2,a1,rfl,p1,p2⟩:=E.of_cons;obtain⟨y2,a2,rfl,W,X⟩:=I.of_cons;obtain⟨rfl,rfl⟩:=jY J p1 W;obtain⟨rfl,rfl⟩:=U O p2 X;exact⟨rfl,rfl⟩
    .cases h
theorem Z0{t e:TypeId}(h:I5 P t=some e):P.underlying t=some (.slice e):=by
 unfold I5 at h;split at h
 .cases h;assumption
 .cases h
theorem GW{d:Nat}{t e:TypeId}(h:P.underlying t=some (.pointer e))(b:Option Addr)(w:World):(Op.equalIn (d+1) t (.pointer none) (.pointer b)).run P w= .ok b.isNone w:=by
 simp [Op.equalIn,run_underlying h]
theorem GU{d:Nat}{t e:TypeId}(h:P.underlying t=some (.pointer e))(a:Addr)(w:World):(Op.equalIn (d+1) t (.pointer (some a)) (.pointer none)).run P w= .ok false w:=by
 simp [Op.equalIn,run_underlying h]
theorem GX{d:Nat}{t e:TypeId}(h:P.underlying t=some (.slice e))(n c m k:Nat)(b:Option Addr)(w:World):(Op.equalIn (d+1) t (.slice none n c) (.slice b m k)).run P w= .ok b.isNone w:=by
 simp [Op.equalIn,run_underlying h]
theorem GV{d:Nat}{t e:TypeId}(h:P.underlying t=some (.slice e))(a:Addr)(n c m k:Nat)(w:World):(Op.equalIn (d+1) t (.slice (some a) n c) (.slice none m k)).run P w= .ok false w:=by
 simp [Op.equalIn,run_underlying h]
theorem lV{t:TypeId}{x y:Value}{b:Bool}{w:World}(D:∀op z u,eqGuard op t z u x y=pure ()) (O:binOp .eql t x y=(do pure (.bool (<-Op.equal t x y)))) (U:binOp .neq t x y=(do pure (.bool (!(<-Op.equal t x y)))))
  (h:(Op.equalIn (9999+1) t x y).run P w= .ok b w) (E I:Operand):
  (do eqGuard .eql t E I x y;binOp .eql t x y).run P w= .ok (.bool b) w/\(do eqGuard .neq t E I x y;binOp .neq t x y).run P w= .ok (.bool !b) w:=by
 have J:(Op.equal t x y).run P w= .ok b w:=h;rw[D,D,O,U];simp only[Sem.run_bind,Sem.run_pure,Result.andThen_ok,J,and_self]
theorem ug{t:TypeId}{x y W X:Value}{b:Bool}(h:eqA P t x y=some b)(D:VR φ x W)(E:VR φ y X)(I J:Operand)(w:World):
  (do eqGuard .eql t I J W X;binOp .eql t W X).run P w= .ok (.bool b) w/\(do eqGuard .neq t I J W X;binOp .neq t W X).run P w= .ok (.bool !b) w:=by
 unfold eqA at h;split at h
 .split at h
  rotate_left
  .cases h
  rename_i U;cases h;cases D;cases E;have u:P.underlying t=some .bool:=by unfold vI at U;split at U<;>first|assumption|cases U
  simp only[eqGuard_at_bool,Sem.run_bind,Sem.run_pure,Result.andThen_ok,run_eql_bool w t _ _ u,run_neq_bool w t _ _ u,and_self]
 .split at h
  rotate_left
  .cases h
  rename_i k hk;subst hk;cases h;cases D;cases E;simp [eqGuard_at_int,binOp,Op.intCmp,bne]
 .cases h;cases D;cases E;simp [eqGuard_at_string,binOp,Op.stringOp,beq_toListBytes]
 .cases D;split at h
  rotate_left
  .cases h
  rename_i e u;cases h;cases E<;>exact lV (fun _ _ _=>eqGuard_at_pointer ..) rfl rfl (GW u _ w) I J
 .cases D;cases E;split at h
  rotate_left
  .cases h
  rename_i e u;cases h;exact lV (fun _ _ _=>eqGuard_at_pointer ..) rfl rfl (GU u _ w) I J
 .cases D;split at h
  rotate_left
  .cases h
  rename_i u;obtain⟨e,he⟩:=Option.isSome_iff_exists.1 u;cases h;cases E<;>exact lV (fun _ _ _=>eqGuard_at_slice ..) rfl rfl (GX (Z0 he) _ _ _ _ _ w) I J
 .split at h
  rotate_left
  .cases h
  rename_i u;obtain⟨e,he⟩:=Option.isSome_iff_exists.1 u;cases h;cases E;cases D<;>exact lV (fun _ _ _=>eqGuard_at_slice ..) rfl rfl (GV (Z0 he) _ _ _ _ _ w) I J
 .split at h
  rotate_left
  .cases h
  rename_i ks z;cases D with
  |agg ha a1=>
   cases E with
   |agg U a2=>
    rename_i xs xs' ys a3;obtain⟨e1,e2⟩:=iu h ⟨ha,a1⟩ ⟨U,a2⟩;obtain rfl:=Array.toList_inj.1 e1;obtain rfl:=Array.toList_inj.1 e2;unfold oW at z;split at z
    rotate_left
    .cases z
    rename_i O;obtain⟨hg,hf⟩:=S7 z;simp only[beq_iff_eq]at O;have hr:=fun w=>uu hf O 10000 oM _ _ b w h;simp only[Sem.run_bind,run_eqGuard_agg w _ t I J _ _ hg,Result.andThen_ok,run_eql_struct,run_neq_struct,hr,and_self]
 .cases h
theorem Av{op:BinOp}{t:TypeId}{x y I O v:Value}(h:F6 P op t x y=some v)(z:VR φ x I)(D:VR φ y O)(J U:Operand):
  ∃v',VR φ v v'/\∀w,(do eqGuard op t J U I O;binOp op t I O).run P w= .ok v' w:=by
 unfold F6 at h;split at h
 .simp only[Option.map_eq_some_iff]at h;obtain⟨b,u,rfl⟩:=h;exact⟨_,.bool b,fun w=>(ug u z D J U w).1⟩
 .simp only[Option.map_eq_some_iff]at h;obtain⟨b,u,rfl⟩:=h;exact⟨_,.bool !b,fun w=>(ug u z D J U w).2⟩
 .split at h
  .cases z;cases D;split at h
   .rename_i u;cases h;exact⟨_,.int _ _,fun w=>by simp [eqGuard_at_int,binOp,Op.shift];intro;omega⟩
   .cases h
  .cases h
 .split at h
  .cases z;cases D;split at h
   .rename_i u;cases h;exact⟨_,.int _ _,fun w=>by simp [eqGuard_at_int,binOp,Op.shift];intro;omega⟩
   .cases h
  .cases h
 .rename_i n1 n2 n3 n4;split at h
  .rename_i k a X b;cases z;cases D;split at h
   rotate_left
   .cases h
   rename_i W;subst W;split at h
   case h_1=>cases h;exact⟨_,.int _ _,fun w=>by simp [eqGuard_at_int,binOp,Op.intArith]⟩
   case h_2=>cases h;exact⟨_,.int _ _,fun w=>by simp [eqGuard_at_int,binOp,Op.intArith]⟩
   case h_3=>cases h;exact⟨_,.int _ _,fun w=>by simp [eqGuard_at_int,binOp,Op.intArith]⟩
   case h_4=>
    split at h
    .cases h
    .rename_i u;cases h;exact⟨_,.int _ _,fun w=>by simp [eqGuard_at_int,binOp,Op.intDiv,u]⟩
   case h_5=>
    split at h
    .cases h
    .rename_i u;cases h;exact⟨_,.int _ _,fun w=>by simp [eqGuard_at_int,binOp,Op.intDiv,u]⟩
   case h_6=>cases h;exact⟨_,.int _ _,fun w=>by simp [eqGuard_at_int,binOp,Op.intBits,Go.bits]⟩
   case h_7=>cases h;exact⟨_,.int _ _,fun w=>by simp [eqGuard_at_int,binOp,Op.intBits,Go.bits]⟩
   case h_8=>cases h;exact⟨_,.int _ _,fun w=>by simp [eqGuard_at_int,binOp,Op.intBits,Go.bits]⟩
   case h_9=>cases h;exact⟨_,.int _ _,fun w=>by simp [eqGuard_at_int,binOp,Op.intBits,Go.bits]⟩
   case h_10=>cases h;exact⟨_,.bool _,fun w=>by simp [eqGuard_at_int,binOp,Op.intCmp]⟩
   case h_11=>cases h;exact⟨_,.bool _,fun w=>by simp [eqGuard_at_int,binOp,Op.intCmp]⟩
   case h_12=>cases h;exact⟨_,.bool _,fun w=>by simp [eqGuard_at_int,binOp,Op.intCmp]⟩
   case h_13=>cases h;exact⟨_,.bool _,fun w=>by simp [eqGuard_at_int,binOp,Op.intCmp]⟩
   case h_14=>cases h
  .rename_i a b;cases z;cases D;split at h
   case h_1=>
    split at h
    .rename_i hs;cases h;refine⟨_,.string _,fun w=>?_⟩;have E:¬((a.size+b.size:Nat):Int)>IntKind.i64.max:=by simp;omega
     simp only[eqGuard_at_string,binOp,Op.stringOp,Sem.run_bind,Sem.run_pure,Result.andThen_ok,if_neg E]
    .cases h
   case h_2=>cases h;exact⟨_,.bool _,fun w=>by simp [eqGuard_at_string,binOp,Op.stringOp]⟩
   case h_3=>cases h;exact⟨_,.bool _,fun w=>by simp [eqGuard_at_string,binOp,Op.stringOp]⟩
   case h_4=>cases h;exact⟨_,.bool _,fun w=>by simp [eqGuard_at_string,binOp,Op.stringOp]⟩
   case h_5=>cases h;exact⟨_,.bool _,fun w=>by simp [eqGuard_at_string,binOp,Op.stringOp]⟩
   case h_6=>cases h
  .cases h
theorem Gb{op:UnOp}{x y v:Value}(h:unA op x=some v)(u:VR φ x y):∃v',VR φ v v'/\∀w,(Op.unary op y).run P w= .ok v' w:=by
 unfold unA at h;split at h
 .cases h;cases u;exact⟨_,.int _ _,fun w=>by simp [Op.unary,Op.intArith]⟩
 .cases h;cases u;exact⟨_,.bool _,fun w=>by simp [Op.unary]⟩
 .cases h;cases u;exact⟨_,.int _ _,fun w=>by simp [Op.unary,Op.intBits,Go.bits]⟩
 .cases h
theorem Addr.add_none(b o n:Nat):(⟨b,o,none⟩:Addr).add n=⟨b,o+n,none⟩:=by unfold Addr.add;split<;>simp_all
theorem lI{t:TypeId}{x U W z v:Value}(h:U5 P t x U=some v)(O:VR φ x W)(J:VR φ U z):∃v',VR φ v v'/\∀w,(Instr.indexAt t W z).run P w= .ok v' w:=by
 unfold U5 at h;split at h
 .rename_i e b o n c k i E;cases J;split at h
  rotate_left
  .cases h
  rename_i size hs;split at h
  rotate_left
  .cases h
  rename_i D;cases h;have y:∀(l:Loc) I,φ[b]?=some l->∃v',VR φ (.pointer (some ⟨b,o+i.toNat*size,none⟩)) v'/\∀w,(Instr.indexAt t (.slice (some ⟨l.blk,l.off+o,none⟩) n I) (.int k i)).run P w= .ok v' w:=by
   intro l I u;refine⟨_,.ptr u,fun w=>?_⟩;simp only[Instr.indexAt,asIntOf,Sem.run_bind,Sem.run_pure,Result.andThen_ok,run_underlying E,D,and_self,if_true,C1 hs,Addr.add_none,Nat.add_assoc]
  cases O with
  |slice0=>exfalso;omega
  |exact u=>exact y _ _ u
  |slice u=>exact y _ _ u
 .rename_i n e b o k i E;cases J;split at h
  rotate_left
  .cases h
  rename_i size hs;split at h
  rotate_left
  .cases h
  rename_i D;cases h;cases O with
  |ptr u=>
   refine⟨_,.ptr u,fun w=>?_⟩;simp only[Instr.indexAt,Instr.sureAddr,asIntOf,Sem.run_bind,Sem.run_pure,Result.andThen_ok,run_underlying E,D,and_self,if_true,C1 hs,Addr.add_none,Nat.add_assoc]
 .cases h
theorem oh{t:TypeId}{cs cs':LV}{u:Nat}{v:Value}(h:ik P t cs u=some v)(D:VRs φ cs cs'):∃v',VR φ v v'/\∀w,(part t cs'.toArray u).run P w= .ok v' w:=by
 unfold ik at h;split at h
 .rename_i s z hs;cases h;refine⟨_,VR.toAgg ((D.drop u).take s),fun w=>?_⟩;simp [part,P1 z,C1 hs]
 .rename_i z;obtain⟨y,I,E⟩:=D.get h;refine⟨y,E,fun w=>?_⟩;simp only[part,Sem.run_bind,P1 ‹_›,Result.andThen_ok,bF,List.getElem?_toArray,I,Sem.run_pure]
 .cases h
theorem um{t:TypeId}{x y v:Value}{i:Nat}(h:ke P t x i=some v)(O:VR φ x y):∃v',VR φ v v'/\∀w,(Instr.field t y i).run P w= .ok v' w:=by
 unfold ke sT at h;split at h
 rotate_left
 .cases h
 rename_i U X cs u;split at u
 rotate_left
 .cases u
 rename_i W J;simp only[Option.map_eq_some_iff,Prod.mk.injEq]at u;obtain⟨f,u,rfl,rfl⟩:=u;cases O with
 |agg E I=>
  obtain⟨v',z,D⟩:=oh (cs':=_) h ⟨E,I⟩;exact⟨v',z,fun w=>by simpa [Instr.field,run_underlying J,u,asAgg] using D w⟩
theorem lF{t:TypeId}{x z v:Value}{i:Nat}(h:bf P t x i=some v)(I:VR φ x z):∃v',VR φ v v'/\∀w,(Instr.fieldAt t z i).run P w= .ok v' w:=by
 unfold bf sT at h;split at h
 rotate_left
 .cases h
 rename_i J U b o u;split at u
 rotate_left
 .cases u
 rename_i O E;simp only[Option.map_eq_some_iff,Prod.mk.injEq]at u;obtain⟨f,u,rfl,rfl⟩:=u;split at h
 rotate_left
 .cases h
 rename_i s hs;split at h
 .cases h
 rename_i y;cases h;cases I with
 |ptr D=>
  refine⟨_,.ptr D,fun w=>?_⟩;simp only[Instr.fieldAt,Sem.run_bind,run_underlying E,Result.andThen_ok,u,Instr.sureAddr,Sem.run_pure,fieldPlace,C1 hs,if_neg y,Addr.add_none,Nat.add_assoc]
theorem uD{t:TypeId}{x O U z v:Value}(h:fY P t x O=some v)(J:VR φ x U)(I:VR φ O z):∃v',VR φ v v'/\∀w,(Instr.index t U z).run P w= .ok v' w:=by
 unfold fY at h;split at h
 .rename_i n e cs k i E;cases I;split at h
  rotate_left
  .cases h
  rename_i size hs;split at h
  rotate_left
  .cases h
  rename_i D;cases J with
  |agg ha hc=>
   obtain⟨v',W,X⟩:=oh (cs':=_) h ⟨ha,hc⟩;refine⟨v',W,fun w=>?_⟩;have u:=X w;simp only[Array.toArray_toList]at u;simp only[Instr.index,asIntOf,Sem.run_bind,Sem.run_pure,Result.andThen_ok,run_underlying E,D,and_self,if_true,C1 hs,u]
 .rename_i s k i E;cases I;cases J;split at h
  rotate_left
  .cases h
  rename_i D;cases h;refine⟨_,.int _ _,fun w=>?_⟩;have y:i.toNat<s.size:=oM;have hg:(if 0<=i then s[i.toNat]? else none)=some (s.data.toList.getD i.toNat 0):=by
   rw[if_pos D.1,ByteArray.getElem?_lt' s i.toNat y];have:i.toNat<s.data.size:=y;simp only[List.getD_eq_getElem?_getD,Array.getElem?_toList,Array.getElem?_eq_getElem this,Option.getD_some];rfl
  simp only[Instr.index,asIntOf,Sem.run_bind,Sem.run_pure,Result.andThen_ok,run_underlying E,hg]
 .cases h
end
section
variable{P:Program}{base:Bs}{w0:World}{φ:List Loc}{S:List Blk}{w:World}
theorem fG{x u:Option Value}{d n:Nat}(h:bnd x d=some n)(D:∀v v',x=some v->u=some v'->VR φ v v') (y:x.isSome=u.isSome):
  u=x/\((x=none/\n=d)\/∃k i,x=some (.int k i)/\0<=i/\n=i.toNat):=by
 unfold bnd at h;split at h
 .cases h;cases u with
  |none=>exact⟨rfl,.inl ⟨rfl,rfl⟩⟩
  |some _=>simp at y
 .rename_i k i _;split at h
  .rename_i z;cases h;cases u with
   |none=>simp at y
   |some v'=>
    have:=D _ _ rfl rfl;cases this;exact⟨rfl,.inr ⟨_,_,rfl,z,rfl⟩⟩
  .cases h
 .cases h
theorem oK{D:Bool}{E u:Nat}{lo J:Option Value}{l h:Nat}(X:(lo=none/\l=0)\/∃k i,lo=some (.int k i)/\0<=i/\l=i.toNat)
  (W:(J=none/\h=E)\/∃k i,J=some (.int k i)/\0<=i/\h=i.toNat) (h1:l<=h) (h2:h<=E) (h3:E<=u) (w:World):
  (Instr.sliceBounds D E u lo J none).run P w= .ok (l,h,u) w:=by
 have I:∀k(i:Int)(y:Nat) z,0<=i->i.toNat<=y->(Instr.sliceBound (.int k i) y z).run P w= .ok i.toNat w:=fun k i y z U hy=>run_sliceBound w k i y z U oM;rcases X with⟨rfl,rfl⟩|⟨k,i,rfl,O,rfl⟩<;>rcases W with⟨rfl,rfl⟩|⟨k',j,rfl,j0,rfl⟩
 .simp [Instr.sliceBounds]
 .simp [Instr.sliceBounds,I k' j u _ j0 oM]
 .simp [Instr.sliceBounds,I k i h _ O oM]
 .simp [Instr.sliceBounds,I k' j u _ j0 oM,I k i j.toNat _ O oM]
theorem vw{z:Bool}{E D:Nat}{lo J mx:Option Value}{l h:Nat}(hl:(lo=none/\l=0)\/∃k i,lo=some (.int k i)/\0<=i/\l=i.toNat)
  (hh:∃k i,J=some (.int k i)/\0<=i/\h=i.toNat) (hm:∃k i,mx=some (.int k i)/\0<=i/\h=i.toNat) (h1:l<=h) (h2:h<=E) (h3:E<=D) (w:World):
  (Instr.sliceBounds z E D lo J mx).run P w= .ok (l,h,h) w:=by
 have I:∀k(i:Int)(y:Nat) u,0<=i->i.toNat<=y->(Instr.sliceBound (.int k i) y u).run P w= .ok i.toNat w:=fun k i y u h0 hy=>run_sliceBound w k i y u h0 oM;obtain⟨U,j,rfl,O,rfl⟩:=hh;obtain⟨W,m,rfl,X,e⟩:=hm;rcases hl with⟨rfl,rfl⟩|⟨k,i,rfl,i0,rfl⟩
 .simp [Instr.sliceBounds,I W m D _ X oM,I U j m.toNat _ O oM];omega
 .simp [Instr.sliceBounds,I W m D _ X oM,I U j m.toNat _ O oM,I k i j.toNat _ i0 oM];omega
theorem CB{H:d8}(z:WR base w0 φ H.bs w){b size:Nat}(h:CA H b=some size){l:Loc}(E:φ[b]?=some l):l.sz=size:=by
 unfold CA at h;split at h
 .rename_i c own sz D;cases h;obtain⟨I,u,y⟩:=z.loc D;rw[E]at u;cases u;exact y.1
 .cases h
theorem lk{H:d8}{t:TypeId}{x x' v:Value}{lo hi mx O E I:Option Value}(hW:WR base w0 φ H.bs w)(h:aH P H t x lo hi mx=some v)(hx:VR φ x x')
  (a2:(∀v v',lo=some v->O=some v'->VR φ v v')/\lo.isSome=O.isSome) (a1:(∀v v',hi=some v->E=some v'->VR φ v v')/\hi.isSome=E.isSome)
  (a3:(∀v v',mx=some v->I=some v'->VR φ v v')/\mx.isSome=I.isSome):
  ∃v',VR φ v v'/\∀u,(Instr.sliceAt t x' O E I).run P u= .ok v' u:=by
 unfold aH at h;split at h
 .rename_i s hu;cases hx;split at h
  rotate_left
  .cases h
  rename_i l D a7 a6;split at h
  rotate_left
  .cases h
  rename_i hb;cases h;obtain⟨rfl,L⟩:=fG a7 a2.1 a2.2;obtain⟨rfl,R⟩:=fG a6 a1.1 a1.2;obtain rfl:I=none:=by cases I<;>simp at a3 ⊢
  refine⟨_,.string _,fun u=>?_⟩;simp [Instr.sliceAt,Instr.slice,run_underlying hu,oK L R hb.1 hb.2 lR]
 .rename_i e a n c hu;split at h
  rotate_left
  .cases h
  rename_i size l D hs a7 a6;split at h
  .cases h
  rename_i b6;split at h
  rotate_left
  .cases h
  rename_i hb;obtain⟨rfl,L⟩:=fG a7 a2.1 a2.2;obtain⟨rfl,R⟩:=fG a6 a1.1 a1.2;split at h
  ·
   obtain rfl:I=none:=by cases I<;>simp at a3 ⊢
   have run:∀a'(y:Nat),n<=y->∀u,(Instr.sliceAt t (.slice a' n y) O E none).run P u= .ok (.slice (if y=l then a' else a'.map (·.add (l*size))) (D-l) (y-l)) u:=by
    intro a' y W u;simp [Instr.sliceAt,Instr.slice,run_underlying hu,oK L R hb.1 hb.2 W,C1 hs]
   split at h
   .cases h;cases hx;exact⟨_,.nilslice,fun u=>by rw[run _ _ lR];simp;omega⟩
   .rename_i b o;by_cases b1:n=0
    .subst b1;rw[if_pos rfl]at h;cases h;have e0:l=0:=oM;have e1:D=0:=oM;subst e0 e1;cases hx with
     |slice0=>exact⟨.slice (some _) 0 0,.slice0,fun u=>by rw[run _ _ lR];simp;rfl⟩
     |exact J=>exact⟨.slice (some _) 0 0,.slice0,fun u=>by rw[run _ _ lR];simp;rfl⟩
     |slice J hn W=>
      rename_i X lc;by_cases a9:X=0
      .subst a9;exact⟨.slice (some _) 0 0,.slice0,fun u=>by rw[run _ _ lR];simp;rfl⟩
      .refine⟨_,?_,fun u=>run _ _ hn u⟩;rw[if_neg a9];simp only[Option.map_some,Addr.add_none,Nat.add_assoc,Nat.zero_mul,Nat.add_zero,Nat.sub_zero];exact .slice J (Nat.zero_le _) W
    rw[if_neg b1]at h;split at h
    .cases h
    rename_i a8;have a8:CA H b=some size:=Decidable.not_not.1 a8;split at h
    .rename_i a5;subst a5;split at h
     rotate_left
     .cases h
     rename_i b2;subst b2;cases h;cases hx with
     |slice0=>
      have h0:l=0:=oM;subst h0;exact⟨.slice (some _) 0 0,.slice0,fun u=>by rw[run _ _ lR];simp;rfl⟩
     |exact J=>
      rename_i lc;by_cases z:D=l
      .subst z;refine⟨_,?_,fun u=>run _ _ lR u⟩;rw[if_pos rfl];have:D-D=0:=oM;rw[this];exact .slice0
      .refine⟨_,?_,fun u=>run _ _ lR u⟩;rw[if_neg z];simp only[Option.map_some,Addr.add_none,Nat.add_assoc];exact .exact J
    .rename_i a5;cases h;cases hx with
     |slice0=>
      have h0:l=0:=oM;have U:D=0:=oM;subst h0 U;exact⟨.slice (some _) 0 0,.slice0,fun u=>by rw[run _ _ lR];simp;rfl⟩
     |exact J=>exact absurd rfl a5
     |slice J hn W=>
      rename_i X lc;refine⟨_,?_,fun u=>run _ _ hn u⟩;by_cases z:X=l
      .subst z;rw[if_pos rfl];have e1:D-X=0:=oM;have e2:X-X=0:=oM;rw[e1,e2];exact .slice0
      .rw[if_neg z];simp only[Option.map_some,Addr.add_none,Nat.add_assoc];refine .slice J oM ?_;have hz:=CB hW a8 J;rw[hz]at W ⊢;have:o+l*size+(X-l)*size=o+X*size:=by
        have:l<=X:=oM;rw[Nat.add_assoc,<-Nat.add_mul,Nat.add_sub_cancel' this]
       omega
   .cases h
  .rename_i m;split at h
   rotate_left
   .cases h
   rename_i b0;obtain⟨rfl,M⟩:=fG b0.1 a3.1 a3.2;have M':∃k i,some m=some (.int k i)/\0<=i/\D=i.toNat:=by
    rcases M with⟨U,_⟩|U
    .cases U
    .exact U
   have R':E.isSome->∃k i,E=some (.int k i)/\0<=i/\D=i.toNat:=by
    intro b4;rcases R with⟨U,_⟩|U
    .subst U;cases b4
    .exact U
   have run:∀a'(y:Nat),n<=y->∀u,(Instr.sliceAt t (.slice a' n y) O E (some m)).run P u= .ok (.slice (if D=l then a' else a'.map (·.add (l*size))) (D-l) (D-l)) u:=by
    intro a' y W u;simp [Instr.sliceAt,Instr.slice,run_underlying hu,vw L (R' b0.2) M' hb.1 hb.2 W,C1 hs]
   split at h
   .cases h;cases hx;exact⟨_,.nilslice,fun u=>by rw[run _ _ lR];simp;omega⟩
   .rename_i b o;cases h;have a4:∀a'(y:Nat),n<=y->(D=l\/∃lc:Loc,φ[b]?=some lc/\a'=some ⟨lc.blk,lc.off+o,none⟩)->a'.isSome->
      ∃v',VR φ (.slice (some ⟨b,o+l*size,none⟩) (D-l) (D-l)) v'/\∀u,(Instr.sliceAt t (.slice a' n y) O E (some m)).run P u= .ok v' u:=by
     intro a' y W b3 b5;refine⟨_,?_,fun u=>run _ _ W u⟩;by_cases z:D=l
     .subst z;rw[if_pos rfl];have:D-D=0:=oM;rw[this];cases a' with
      |none=>cases b5
      |some a'=>exact .slice0
     .rw[if_neg z];rcases b3 with U|⟨lc,J,rfl⟩
      .exact absurd U z
      .simp only[Option.map_some,Addr.add_none,Nat.add_assoc];exact .exact J
    cases hx with
    |slice0=>exact a4 _ _ lR (.inl oM) rfl
    |exact J=>exact a4 _ _ lR (.inr ⟨_,J,rfl⟩) rfl
    |slice J hn W=>exact a4 _ _ hn (.inr ⟨_,J,rfl⟩) rfl
   .cases h
 .cases h
theorem E3(c:LV)(o:Nat)(xs:LV):(splice c o xs).length=c.length:=by
 induction xs generalizing c o with
 |nil=>rfl
 |cons x xs h=>simp [splice,h]
theorem VRs.splice{a b xs u:LV}(h:VRs φ a b)(o:Nat)(k:VRs φ xs u):VRs φ (Ve.splice a o xs) (Ve.splice b o u):=by
 induction xs generalizing a b o u with
 |nil=>rw[k.of_nil];exact h
 |cons x xs E=>
  obtain⟨y,u,rfl,z,D⟩:=k.of_cons;exact E (h.set o z) (o+1) D
theorem rN(l:LV):∀(k h:Nat)(cs:Array Value),(l.zipIdx k).foldl (fun cs(c,j)=>cs.setIfInBounds (h+j) c) cs=(splice cs.toList (h+k) l).toArray:=by
 induction l with
 |nil=>intro k h cs;simp [splice]
 |cons x xs u=>
  intro k h cs;simp only[List.zipIdx_cons,List.foldl_cons,u,splice]
  congr 1
  rw[Array.toList_setIfInBounds];rw[Nat.add_assoc]
def iY(φ:List Loc)(a b:List (Nat×Value)):Prop:=a.length=b.length/\∀(i:Nat) x y,a[i]?=some x->b[i]?=some y->x.1=y.1/\VR φ x.2 y.2
theorem iY.of_cons{i:Nat}{x:Value}{xs z:List (Nat×Value)}(h:iY φ ((i,x)::xs) z):∃y u,z=(i,y)::u/\VR φ x y/\iY φ xs u:=by
 cases z with
 |nil=>have:=h.1;simp at this
 |cons y u=>
  obtain⟨j,y⟩:=y;have D:=h.2 0 (i,x) (j,y) sM sM;simp only at D;obtain⟨rfl,E⟩:=D;exact⟨y,u,rfl,E,by have:=h.1;simpa using this,fun k a b p q=>h.2 (k+1) a b (by simpa using p) (by simpa using q)⟩
theorem iY.of_nil{u:List (Nat×Value)}(h:iY φ [] u):u=[]:=by
 have:=h.1;cases u with
 |nil=>rfl
 |cons _ _=>simp at this
theorem eO{D:Nat->Option (Nat×Nat)}{u z:List (Nat×Value)}:∀{cs cs' l:LV},T4 D cs u=some l->VRs φ cs cs'->iY φ u z->
  ∃X,Instr.fill D cs'.toArray z=some X.toArray/\VRs φ l X:=by
 induction u generalizing z with
 |nil=>
  intro cs cs' l h W hp;rw[hp.of_nil];simp only[T4,Option.some.injEq]at h;subst h;exact⟨cs',rfl,W⟩
 |cons p u ih=>
  intro cs cs' l h W hp;obtain⟨i,x⟩:=p;obtain⟨y,ys,rfl,hv,a1⟩:=hp.of_cons;simp only[T4]at h;cases O:D i with
  |none=>simp [O]at h
  |some q=>
   obtain⟨U,size⟩:=q;simp only[O]at h;split at h
   .cases h
   rename_i J;have I:x.cells.toList.all oC=true:=by
    cases hq:x.cells.toList.all oC with
    |true=>rfl
    |false=>exact absurd (.inr (.inr hq)) J
   have a3:y.cells.toList.length=x.cells.toList.length:=(hv.cells I).1.symm;have a2:=W.1;obtain⟨X,e1,e2⟩:=ih h (W.splice U (hv.cells I)) a1;refine⟨X,?_,e2⟩;simp only[Instr.fill,O];have hy:y.cells.size=size:=by
    have:y.cells.toList.length=y.cells.size:=sM;omega
   have E:((decide (y.cells.size≠size))||decide (U+y.cells.size>cs'.toArray.size))=false:=by
    simp only[hy,ne_eq,not_true_eq_false,decide_false,Bool.false_or,decide_eq_false_iff_not,List.size_toArray];omega
   rw[E];simp only[bF];rw[<-e1]
   congr 1
   rw[<-Array.foldl_toList,Array.toList_zipIdx,rN];simp
theorem tM{t:TypeId}{I D:List (Nat×Value)}{v:Value}(h:mE P t I=some v)(hp:iY φ I D):
  ∃v',VR φ v v'/\∀w,(Instr.build t D.toArray).run P w= .ok v' w:=by
 unfold mE at h;have J:∀z,O9 P t=some z->∃it X,P.info? t=some it/\it.zero=some X/\X.cells.toList=z/\z.all Ve.na0=true:=by
  intro z E;unfold O9 at E;cases O:P.info? t with
  |none=>simp [O]at E
  |some it=>
   cases y:it.zero with
   |none=>simp [O,y]at E
   |some X=>
    simp only[O,y,Option.bind_some]at E;split at E
    .rename_i hc;cases E;simp only[Bool.and_eq_true]at hc;exact⟨it,X,rfl,y,rfl,hc.1⟩
    .cases E
 split at h
 .rename_i z ps E u;obtain⟨it,X,O,y,rfl,W⟩:=J z E;simp only[Option.map_eq_some_iff]at h;obtain⟨l,hl,rfl⟩:=h;obtain⟨l',e1,e2⟩:=eO hl (VRs.na0 W) hp;refine⟨_,VR.toAgg e2,fun w=>run_build w t _ _ ?_⟩;unfold FU at u;split at u
  .rename_i fs hu;simp only[Option.map_eq_some_iff]at u;obtain⟨a3,a2,he⟩:=u;cases he;have a1:fs.toList.mapM (fun f=>(P.info? f.type).map fun i=>(f.offset,i.size))=some ps:=by
    rw[<-a2]
    congr 1
    funext f
    simp [D8,Option.map_map,Function.comp_def]
   simp only[Program.built,O,hu,y,a1]
   simpa using e1
  .rename_i n e hu;simp at u
  .cases u
 .rename_i z s E u;obtain⟨it,X,O,y,rfl,W⟩:=J z E;simp only[Option.map_eq_some_iff]at h;obtain⟨l,hl,rfl⟩:=h;obtain⟨l',e1,e2⟩:=eO hl (VRs.na0 W) hp;refine⟨_,VR.toAgg e2,fun w=>run_build w t _ _ ?_⟩;unfold FU at u;split at u
  .simp at u
  .rename_i n e hu;simp only[Option.map_eq_some_iff]at u;obtain⟨s',hs,he⟩:=u;cases he;unfold D8 at hs;cases U:P.info? e with
   |none=>simp [U]at hs
   |some ie=>
    simp [U]at hs;subst hs;simp only[Program.built,O,hu,y,U]
    simpa using e1
  .cases u
 .cases h
theorem BC{H:d8}{ts:List TypeId}{x X v:Value}(hW:WR base w0 φ H.bs w)(h:EK P H ts x=some v)(I:VR φ x X)(ty:TypeId):
  ∃v',VR φ v v'/\∀z,Cls base w0 φ H.bs w z->(Builtin.len_ ts.toArray ty #[X]).run P z= .ok v' z:=by
 unfold EK at h;have D:∀d,ts.head?.bind P.underlying=some d->∃t,ts.toArray[0]?=some t/\P.underlying t=some d:=by
  intro d D;cases ts with
  |nil=>simp at D
  |cons t ts=>exact⟨t,by simp,by simpa using D⟩
 split at h
 .rename_i s u;obtain⟨t,y,u⟩:=D _ u;cases h;cases I;exact⟨_,.int _ _,fun z _=>by simp [Builtin.len_,y,run_underlying u,goInt]⟩
 .rename_i e a n c u;obtain⟨t,y,u⟩:=D _ u;cases h;cases I<;>exact⟨_,.int _ _,fun z _=>by simp [Builtin.len_,y,run_underlying u,goInt]⟩
 .rename_i n e x u;obtain⟨t,y,u⟩:=D _ u;cases h;exact⟨_,.int _ _,fun z _=>by simp [Builtin.len_,y,run_underlying u,goInt]⟩
 .rename_i k e u;obtain⟨t,y,u⟩:=D _ u;cases h;cases I;exact⟨_,.int _ _,fun z _=>by simp [Builtin.len_,y,run_underlying u,goInt]⟩
 .rename_i k e b u;obtain⟨t,y,u⟩:=D _ u;split at h
  rotate_left
  .cases h
  rename_i es U;cases h;cases I with
  |map W=>
   rename_i l;obtain⟨l',E,O⟩:=hW.loc U;rw[W]at E;cases E;obtain⟨hb,J,cl,h1,h2,h3⟩:=O;refine⟨_,.int _ _,fun z hc=>?_⟩;have hh:z.heap[l.blk]?=some (.map J cl):=by rw[hc.same _ _ l U sM W];exact h1
   simp [Builtin.len_,y,run_underlying u,getObj,Sem.run,hh,goInt,h2]
 .cases h
theorem jv{z:Bool}:∀{xs:LV}{v:Value},iE z xs=some v->∀u,VRs φ xs u->∃y rest,u=y::rest/\VR φ v v/\∀w,(rest.foldlM (if z then Builtin.max2 else Builtin.min2) y).run P w= .ok v w:=by
 intro xs;induction X:xs.length using Nat.strongRecOn generalizing xs with
 |_ n ih=>
  intro v h u J;unfold iE at h;split at h
  .cases h;obtain⟨y,u,rfl,D,E⟩:=J.of_cons;rw[E.of_nil];cases D;exact⟨_,[],rfl,.int _ _,fun w=>by simp⟩
  .rename_i k a k' b rest;split at h
   rotate_left
   .cases h
   rename_i W;subst W;obtain⟨y,u,rfl,D,E⟩:=J.of_cons;obtain⟨y2,u,rfl,O,U⟩:=E.of_cons;cases D;cases O;obtain⟨y3,I,e,hv,hr⟩:=ih _ (by simp at X ⊢;omega) rfl h (_::u) (.cons (.int k _) U);obtain⟨rfl,rfl⟩:=List.cons.inj e;refine⟨_,_,rfl,hv,fun w=>?_⟩;rw[List.foldlM_cons,Sem.run_bind];have:((if z then Builtin.max2 else Builtin.min2) (.int k a) (.int k b)).run P w= .ok (.int k (if z then(if b>a then b else a) else(if b<a then b else a))) w:=by
    cases z<;>rfl
   rw[this,Result.andThen_ok];exact hr w
  .cases h
theorem jX(s:ByteArray):(s==s)=true:=by rw[beq_toListBytes];simp
theorem si{k:Q5}{x:Value}(h:nJ k x=true):N6 k x x=some true:=by
 unfold nJ at h;split at h
 .simp [N6]
 .simp [N6]
 .simp [N6,jX]
 .cases h
theorem qz{u:List Q5}{xs:LV}(h:X3 u xs=true):A6 u xs xs=some true:=by
 induction u generalizing xs with
 |nil=>
  cases xs with
  |nil=>rfl
  |cons _ _=>cases h
 |cons k u y=>
  cases xs with
  |nil=>cases h
  |cons x xs=>
   simp only[X3,Bool.and_eq_true]at h;simp [A6,si h.1,y h.2]
theorem Bj{d:Nat}{t:TypeId}{y:List Q5}(h:X7 P d t=some y):∃q,bT P t=some q:=by
 cases d with
 |zero=>cases h
 |succ d=>
  unfold bT;unfold X7 at h;split at h<;>rename_i u<;>first|exact⟨_,by rw[u]⟩|cases h
theorem jn{d:Nat}{t:TypeId}{u:List Q5}(h:X7 P d t=some u)(z:bT P t=some false):∃k,u=[k]:=by
 cases d with
 |zero=>cases h
 |succ d=>obtain⟨k,y,_⟩:=fS h z;exact⟨k,y⟩
theorem fm{u:Bool}{d:Nat}{t:TypeId}{I:List Q5}(h:X7 P d t=some I)(y:bT P t=some false)(D:Nat)(v:Value)(w:World){k:Q5}(z:N6 k v v=some true):
  (Instr.checkKey u (D+1) t v).run P w= .ok () w:=by
 cases d with
 |zero=>cases h
 |succ d=>
  unfold bT at y;unfold X7 at h;unfold N6 at z;split at h<;>rename_i E<;>(try rw[E]at y)<;>first|(cases y;done)|(cases h;done)|skip
  all_goals
   split at z<;>first|(cases z;done)|simp [Instr.checkKey,run_underlying E]
theorem rx{u:Bool}:∀{d:Nat}{t:TypeId}{ks:List Q5},X7 P d t=some ks->bT P t=some true->∀D,d<=D->∀(xs:Array Value)(w:World),
  A6 ks xs.toList xs.toList=some true->(Instr.checkKey u D t (.agg xs)).run P w= .ok () w:=by
 intro d;induction d with
 |zero=>intro t ks h;cases h
 |succ d ih=>
  intro t ks h hq D hD xs w hc;obtain⟨D,rfl⟩:∃m,D=m+1:=⟨D-1,oM⟩
  unfold bT at hq;unfold X7 at h;split at h<;>rename_i hu<;>(try rw[hu]at hq)<;>first|(cases hq;done)|(cases h;done)|skip
  rename_i fs;split at h
  .cases h
  simp only[Instr.checkKey,Sem.run_bind,run_underlying hu,Result.andThen_ok];rw[<-Array.forIn_toList];have key:∀(O:List Field)(n:Nat)(r:List Q5),iz P (X7 P d) O n=some r->A6 r (xs.toList.drop n) (xs.toList.drop n)=some true->
    (Sem.run P (forIn O PUnit.unit fun f a5=>
      if f.name≠ "_" then do
       let __do_lift<-part f.type xs f.offset
       Instr.checkKey u D f.type __do_lift
       pure (ForInStep.yield PUnit.unit)
      else pure (ForInStep.yield PUnit.unit)) w)= .ok PUnit.unit w:=by
   intro O;induction O with
   |nil=>intro n r E h2;rfl
   |cons f O a4=>
    intro n r E h2;simp only[iz]at E;split at E
    rotate_left
    .cases E
    rename_i hn;split at E
    rotate_left
    .cases E
    rename_i m X;split at E
    rotate_left
    .cases E
    rename_i hs;simp only[Option.map_eq_some_iff]at E;obtain⟨r',a2,rfl⟩:=E;obtain⟨b1,b2,I,e2,e3⟩:=fN h2;obtain⟨rfl,rfl⟩:b1=true/\b2=true:=by cases b1<;>cases b2<;>simp at e3 ⊢
    rw[List.drop_drop]at e2;have a1:=a4 _ _ a2 e2;have W:=de I;have J:∃a,(part f.type xs f.offset).run P w= .ok a w/\(Instr.checkKey u D f.type a).run P w= .ok () w:=by
     obtain⟨q,y⟩:=Bj X;cases q with
     |true=>
      refine⟨.agg (xs.extract f.offset (f.offset+m.length)),by simp [part,P1 y,C1 hs],ih X y D oM _ w ?_⟩;rw[hn.2]
      simpa [List.take_drop] using I
     |false=>
      obtain⟨k,rfl⟩:=jn X y;obtain⟨D',rfl⟩:∃z,D=z+1:=⟨D-1,by cases d with
       |zero=>cases X
       |succ d=>omega⟩
      simp only[List.length_cons,List.length_nil,Nat.zero_add]at I W;obtain⟨x,hx⟩:∃x,(xs.toList.drop n).take 1=[x]:=List.length_eq_one_iff.1 W.1;rw[hx]at I;have a3:xs[f.offset]?=some x:=by
       have:((xs.toList.drop n).take 1)[0]?=some x:=by rw[hx];rfl
       rw[hn.2];simpa [List.getElem?_take,List.getElem?_drop] using this
      refine⟨x,by simp [part,P1 y,a3],fm X y D' x w (k:=k) ?_⟩;unfold A6 at I;cases U:N6 k x x with
      |none=>simp [U]at I
      |some z=>simp [U,A6]at I;rw[I]
    obtain⟨a,s1,s2⟩:=J;rw[List.forIn_cons];simp only[hn.1,ne_eq,not_false_eq_true,if_true,Sem.run_bind,s1,s2,Result.andThen_ok,Sem.run_pure]
    simpa using a1
  rw[key fs.toList 0 ks h (by simpa using hc)];rfl
theorem aB{D:TypeId}{k:Value}(h:bh P D k=true)(u:Bool)(w:World):(Instr.checkKey u 10000 D k).run P w= .ok () w:=by
 unfold bh at h;split at h
 .rename_i E cs z y;exact rx (S7 z).2 y 10000 oM cs w (qz h)
 .rename_i E z y;obtain⟨I,rfl⟩:=jn (S7 z).2 y;simp only[X3,Bool.and_true]at h;exact fm (S7 z).2 y 9999 _ w (si h)
 .cases h
theorem kS{O:TypeId}{k I:Value}(h:bh P O k=true)(u:VR φ k I):I=k:=by
 unfold bh at h;split at h
 .rename_i J cs E D;cases u with
  |agg y z=>
   have:=(iu (qz h) ⟨y,z⟩ ⟨y,z⟩).1;rw[Array.toList_inj.1 this]
 .rename_i J E D;obtain⟨U,rfl⟩:=jn (S7 E).2 D;simp only[X3,Bool.and_true]at h;exact(jY (si h) u u).1
 .cases h
theorem kE{k:Q5}{x y:Value}(h:N6 k x y=some true):x=y:=by
 unfold N6 at h;split at h
 .simp only[Option.some.injEq,beq_iff_eq]at h;rw[h]
 .split at h
  .rename_i z;subst z;simp only[Option.some.injEq,beq_iff_eq]at h;rw[h]
  .cases h
 .simp only[Option.some.injEq]at h;rw[beq_toListBytes,beq_iff_eq,ByteArray.toList_eq,ByteArray.toList_eq]at h;have u:=Array.toList_inj.1 h;rename_i a b;obtain⟨a⟩:=a;obtain⟨b⟩:=b;simp only at u;rw[u]
 .cases h
theorem ru{z:List Q5}{xs u:LV}(h:A6 z xs u=some true):xs=u:=by
 induction z generalizing xs u with
 |nil=>cases xs<;>cases u<;>first|rfl|cases h
 |cons k z I=>
  cases xs with
  |nil=>cases h
  |cons x xs=>
   cases u with
   |nil=>cases h
   |cons y u=>
    simp only[A6]at h;split at h
    .rename_i a b D E;obtain⟨rfl,rfl⟩:a=true/\b=true:=by cases a<;>cases b<;>simp at h ⊢
     rw[kE D,I E]
    .cases h
theorem qb{k:Q5}{x y:Value}{b:Bool}(h:N6 k x y=some b):Ve.na0 x=true:=by
 unfold N6 at h;split at h<;>first|rfl|cases h
theorem wz{E:List Q5}{xs u:LV}{b:Bool}(h:A6 E xs u=some b):∀(i:Nat)(x:Value),xs[i]?=some x->∃X:Unit,xs=xs/\Ve.na0 x=true:=by
 induction E generalizing xs u b with
 |nil=>cases xs<;>cases u<;>first|(intro i x U;simp at U;done)|cases h
 |cons k E W=>
  cases xs with
  |nil=>cases h
  |cons x xs=>
   cases u with
   |nil=>cases h
   |cons y u=>
    simp only[A6]at h;split at h
    .rename_i a b I J;intro i z D;cases i with
     |zero=>simp at D;subst D;exact⟨(),rfl,qb I⟩
     |succ i=>obtain⟨_,_,O⟩:=W J i z (by simpa using D);exact⟨(),rfl,O⟩
    .cases h
theorem EF{U:TypeId}{k x E:Value}{b:Bool}(h:uK P U k x=some b)(O:VR φ x E):
  E=x/\(∀w,(Op.equal U k E).run P w= .ok b w)/\(b=true->x=k):=by
 unfold uK at h;split at h
 .rename_i ks D u;split at h
  .rename_i xs ys;cases O with
   |agg W X=>
    have hy:=(iu (φ:=φ) (xs':=xs.toList) h ⟨rfl,fun i p q I J=>?_⟩ ⟨W,X⟩).2
    .obtain rfl:=Array.toList_inj.1 hy;exact⟨rfl,fun w=>uu (S7 D).2 u 10000 oM _ _ b w h,fun y=>by subst y;rw[Array.toList_inj.1 (ru h)]⟩
    .rw[I]at J;cases J;obtain⟨z,_,hz⟩:=wz h _ _ I;exact VR.na0 hz
  .cases h
 .rename_i kk D u;obtain⟨k1,e,hk⟩:=fS (d:=8) (S7 D).2 u;cases e;have:=(jY h (VR.na0 (qb h)) O).2;subst this;exact⟨rfl,fun w=>hk 9999 _ _ b w h,fun y=>by subst y;exact(kE h).symm⟩
 .cases h
theorem oL{z:TypeId}{k x:Value}{b c:Bool}{d:TypeDesc}(h:uK P z k x=some b)(hs:Instr.sameNow d k x=some c):c=b:=by
 unfold uK at h;split at h
 .split at h
  .unfold Instr.sameNow at hs;split at hs<;>simp_all
  .cases h
 .unfold N6 at h;split at h
  .unfold Instr.sameNow at hs;split at hs<;>first|(cases hs;done)|skip
   all_goals first|(rename_i u D;cases u;done)|skip
   all_goals simp_all
  .split at h
   .rename_i y;subst y;unfold Instr.sameNow at hs;split at hs<;>first|(cases hs;done)|skip
    all_goals simp_all
   .cases h
  .unfold Instr.sameNow at hs;split at hs<;>first|(cases hs;done)|skip
   all_goals simp_all
  .cases h
 .cases h
theorem wZ{kt:TypeId}{k:Value}:∀{E:List (Value×Value)}{u:List MapEntry}{i:Nat}{r:Option (Nat×Value)},kM P kt k E i=some r->E.length=u.length->
  (∀(j:Nat) a m,E[j]?=some a->u[j]?=some m->VR φ a.1 m.key/\VR φ a.2 m.val)->
  ∃I,(∀w,(Instr.findAsking kt k u i).run P w= .ok I w)/\(∀d z,Instr.findNow d k u i=some z->z=I)/\
   (match r,I with|none,none=>True|some (j,v),some (j',v')=>j=j'/\VR φ v v'/\i<=j/\E[j-i]?=some (k,v)/\(u[j-i]?).map (·.key)=some k|_,_=>False):=by
 intro E;induction E with
 |nil=>
  intro u i r h U X;cases u with
  |cons _ _=>simp at U
  |nil=>
   cases h;exact⟨none,fun w=>by simp [Instr.findAsking],fun d z D=>by simp [Instr.findNow]at D;exact D.symm,trivial⟩
 |cons a E ih=>
  intro u i r h U X;obtain⟨ka,va⟩:=a;cases u with
  |nil=>simp at U
  |cons m u=>
   obtain⟨hk,hv⟩:=X 0 (ka,va) m sM sM;simp only[kM]at h;split at h
   .rename_i y;cases h;obtain⟨J,W,e3⟩:=EF y hk;have e4:=e3 rfl;refine⟨some (i,m.val),fun w=>?_,fun d z D=>?_,rfl,hv,lR,by simp [e4],by simp [J,e4]⟩
    .simp [Instr.findAsking,W w]
    .rw[Instr.findNow,J]at D;split at D
     .exact(Option.some.inj D).symm
     .rename_i hs;have:=oL y hs;cases this
     .cases D
   .rename_i y;obtain⟨J,W,e3⟩:=EF y hk;obtain⟨I,f1,f2,O⟩:=ih h (by simpa using U) (fun j a m' p q=>X (j+1) a m' (by simpa using p) (by simpa using q));refine⟨I,fun w=>?_,fun d z D=>?_,?_⟩
    .simp [Instr.findAsking,W w,f1 w]
    .rw[Instr.findNow,J]at D;split at D
     .rename_i hs;have:=oL y hs;cases this
     .exact f2 d z D
     .cases D
    .cases r with
     |none=>cases I<;>first|exact O|exact O.elim
     |some q=>
      obtain⟨j,v⟩:=q;cases I with
      |none=>exact O.elim
      |some q'=>
       obtain⟨j',v'⟩:=q';obtain⟨g1,g2,g3,g4,g5⟩:=O;refine⟨g1,g2,oM,?_,?_⟩
       .rw[show j-i=(j-(i+1))+1 from oM];simpa using g4
       .rw[show j-i=(j-(i+1))+1 from oM];simpa using g5
   .cases h
theorem bA{D:TypeId}{k:Value}{E:List (Value×Value)}{u:List MapEntry}{r:Option (Nat×Value)}(U:bh P D k=true)(h:kM P D k E 0=some r)(hl:E.length=u.length)
  (he:∀(j:Nat) a m,E[j]?=some a->u[j]?=some m->VR φ a.1 m.key/\VR φ a.2 m.val):
  ∃y,(∀w,(Instr.findKey D k u).run P w= .ok y w)/\
   (match r,y with|none,none=>True|some (j,v),some (j',v')=>j=j'/\VR φ v v'/\E[j]?=some (k,v)/\(u[j]?).map (·.key)=some k|_,_=>False):=by
 obtain⟨y,W,X,I⟩:=wZ h hl he;have J:∃d,P.underlying D=some d:=by
  unfold bh at U;cases O:vJ P D with
  |none=>simp [O]at U
  |some ks=>
   have:=(S7 O).2;unfold X7 at this;split at this<;>rename_i J<;>first|exact⟨_,J⟩|cases this
 obtain⟨d,hd⟩:=J;refine⟨y,fun w=>?_,?_⟩
 .simp only[Instr.findKey,Sem.run_bind,run_underlying hd,Result.andThen_ok];split
  .rename_i z hz;rw[X d z hz];rfl
  .exact W w
 .cases r with
  |none=>cases y<;>first|exact I|exact I.elim
  |some q=>
   cases y with
   |none=>exact I.elim
   |some q'=>obtain⟨g1,g2,g3,g4,g5⟩:=I;exact⟨g1,g2,by simpa using g4,by simpa using g5⟩
theorem qR{t k e:TypeId}(h:vK P t=some (k,e)):P.underlying t=some (.map k e):=by
 unfold vK at h;split at h
 .cases h;assumption
 .cases h
theorem sj{H:d8}{t:TypeId}{m k m' k' v:Value}{ok:Bool}(hW:WR base w0 φ H.bs w)(h:gQ P H t m k ok=some v)(hm:VR φ m m')(hk:VR φ k k'):
  ∃v',VR φ v v'/\∀y,Cls base w0 φ H.bs w y->(Instr.lookup t m' k' ok).run P y= .ok v' y:=by
 unfold gQ at h;split at h
 rotate_left
 .cases h
 rename_i kt et a2;have O:=qR a2;split at h
 rotate_left
 .cases h
 rename_i u;obtain rfl:=kS u hk;have D:∀(z U:Value)(b:Bool),VR φ z U->VR φ (if ok then .tuple #[z,.bool b] else z) (if ok then .tuple #[U,.bool b] else U):=by
  intro z U b I;cases ok
  .exact I
  .exact VR.toTuple (a:=[z,.bool b]) (b:=[U,.bool b]) (.cons I (.cons (.bool b) (.nil φ)))
 split at h
 .rename_i b;split at h
  rotate_left
  .cases h
  rename_i es hg;cases hm with
  |map hl=>
   rename_i l;obtain⟨l',J,a1⟩:=hW.loc hg;rw[hl]at J;cases J;obtain⟨hb,X,cl,h1,h2,h3⟩:=a1;have hh:∀y,Cls base w0 φ H.bs w y->y.heap[l.blk]?=some (.map X cl):=fun y E=>by rw[E.same _ _ l hg sM hl];exact h1
   split at h
   .rename_i j va z hf I;cases h;obtain⟨r',f1,W⟩:=bA (φ:=φ) u hf (by simpa using h2.symm) (fun j a m p q=>h3 j a.1 a.2 m p q);cases r' with
    |none=>exact W.elim
    |some q=>
     obtain⟨j',v'⟩:=q;obtain⟨g1,g2,_⟩:=W;refine⟨_,D va v' true g2,fun y E=>?_⟩;simp only[Instr.lookup,Sem.run_bind,run_underlying O,Result.andThen_ok,getObj,Sem.run,hh y E,aB u,f1,Sem.run_pure]
   .rename_i z hf I;cases h;obtain⟨r',f1,W⟩:=bA (φ:=φ) u hf (by simpa using h2.symm) (fun j a m p q=>h3 j a.1 a.2 m p q);cases r' with
    |some q=>exact W.elim
    |none=>
     refine⟨_,D z z false (VR.na1 (aF I w).2),fun y E=>?_⟩;simp only[Instr.lookup,Sem.run_bind,run_underlying O,Result.andThen_ok,getObj,Sem.run,hh y E,aB u,f1,Sem.run_pure,(aF I y).1]
   .cases h
 .cases hm;simp only[Option.map_eq_some_iff]at h;obtain⟨z,I,rfl⟩:=h;obtain⟨d,hd⟩:∃d,P.underlying kt=some d:=by
   unfold bh at u;cases E:vJ P kt with
   |none=>simp [E]at u
   |some ks=>
    have:=(S7 E).2;unfold X7 at this;split at this<;>rename_i O<;>first|exact⟨_,O⟩|cases this
  refine⟨_,D z z false (VR.na1 (aF I w).2),fun y E=>?_⟩;simp [Instr.lookup,run_underlying O,aB u,Instr.findKey,run_underlying hd,Instr.findNow,(aF I y).1]
 .cases h
end
section
variable{P:Program}{base:Bs}{w0:World}{φ:List Loc}{S:List Blk}{w:World}
theorem V9{H:d8}{size n c:Nat}{a:Option Addr}{x':Value}{l:LV}(hW:WR base w0 φ H.bs w)(h:A5 H size (.slice a n c)=some l)(hx:VR φ (.slice a n c) x'):
  ∃a' z y,x'= .slice a' n z/\y.length=n*size/\VRs φ l y/\∀u,Cls base w0 φ H.bs w u->∀k,k<=n->(Builtin.firstCells size k x').run P u= .ok (y.take (k*size)).toArray u:=by
 unfold A5 at h;split at h
 .rename_i c0 e;cases e;cases h;cases hx;exact⟨none,0,[],rfl,by simp,.nil φ,fun u _ k _=>by simp [Builtin.firstCells]⟩
 .rename_i b o n0 c0 e;cases e;split at h
  .rename_i X;subst X;cases h;have:∀a' z,∃D E y,(Value.slice (some a') 0 z)= .slice D 0 E/\y.length=0*size/\VRs φ [] y/\∀u,Cls base w0 φ H.bs w u->∀k,k<=0->(Builtin.firstCells size k (.slice (some a') 0 z)).run P u= .ok (y.take (k*size)).toArray u:=
    fun a' z=>⟨some a',z,[],rfl,by simp,.nil φ,fun u _ k hk=>(by have h0:k=0:=oM;subst h0;simp [Builtin.firstCells,loadCells,loadCellsFrom])⟩
   cases hx<;>exact this _ _
  .rename_i X;split at h
   rotate_left
   .cases h
   rename_i cs own sz hg;split at h
   rotate_left
   .cases h
   rename_i a1;cases h;have I:∀(lc:Loc) z,φ[b]?=some lc->∃D E y,(Value.slice (some ⟨lc.blk,lc.off+o,none⟩) n z)= .slice D n E/\y.length=n*size/\VRs φ ((cs.drop o).take (n*size)) y/\
     ∀u,Cls base w0 φ H.bs w u->∀k,k<=n->(Builtin.firstCells size k (.slice (some ⟨lc.blk,lc.off+o,none⟩) n z)).run P u= .ok (y.take (k*size)).toArray u:=by
    intro lc z J;obtain⟨ys,hv,hc⟩:=kG hW hg J;have O:((ys.drop o).take (n*size)).length=n*size:=by have:=hv.1;simp;omega
    refine⟨_,_,_,rfl,O,(hv.drop o).take (n*size),fun u U k hk=>?_⟩;simp only[Builtin.firstCells];have W:k*size<=n*size:=Nat.mul_le_mul_right _ hk;rw[qJ (hc u U) o (k*size) (by rw[<-hv.1];omega),List.take_take,Nat.min_eq_left W]
   cases hx with
   |slice0=>exact absurd rfl X
   |exact J=>exact I _ _ J
   |slice J=>exact I _ _ J
 .cases h
theorem uS{l D:LV}{bs:List UInt8}(h:l.mapM dd=some bs)(E:VRs φ l D):D=l:=by
 induction l generalizing D bs with
 |nil=>exact E.of_nil
 |cons x xs U=>
  obtain⟨y,W,rfl,I,J⟩:=E.of_cons;simp only[List.mapM_cons,Option.bind_eq_bind,Option.pure_def]at h;cases u:dd x with
  |none=>simp [u]at h
  |some b=>
   cases z:xs.mapM dd with
   |none=>simp [u,z]at h
   |some r=>
    have O:y=x:=by
     unfold dd at u;split at u
     .cases I;rfl
     .cases u
    rw[O,U z J]
theorem wq(l:LV):∀(u:ByteArray)(bs:List UInt8)(w:World),l.mapM dd=some bs->
  (forIn l u (fun c s=>(match c with
   | .int .u8 n=>pure (ForInStep.yield (s.push (UInt8.ofNat n.toNat)))
   |_=>(do stuck "bytesToString: byte expected";pure (ForInStep.yield s)):Sem (ForInStep ByteArray)))).run P w= .ok ⟨u.data++bs.toArray⟩ w:=by
 induction l with
 |nil=>intro u bs w h;simp at h;subst h;simp
 |cons x xs D=>
  intro u bs w h;simp only[List.mapM_cons,Option.bind_eq_bind,Option.pure_def]at h;cases y:dd x with
  |none=>simp [y]at h
  |some b=>
   cases z:xs.mapM dd with
   |none=>simp [y,z]at h
   |some r=>
    simp [y,z]at h;subst h;unfold dd at y;split at y
    .cases y;rw[List.forIn_cons];simp only[Sem.run_bind,Sem.run_pure,Result.andThen_ok,D _ _ w z]
     congr 2
     simp [ByteArray.push]
    .cases y
theorem BX{D:Nat}{e:Env}{ts:Array Value}(u:ts.size=D/\∀t,VR φ (e.get t) (ts.getD t undef)) {a:Act} (z:a.tmps=ts) {x:Operand} (h:C5 x=true):VR φ (opv e x) (a.eval x):=by
 cases x with
 |tmp t=>simpa [opv,Act.eval,z] using u.2 t
 |const v=>exact VR.na h
 |global g=>cases h
 |func f=>exact .func f rfl (fun i x y p=>by simp at p) rfl (fun i x y p=>by simp at p)
end
section
variable{P:Program}{base:Bs}{w0:World}{φ:List Loc}{S:List Blk}{w:World}
theorem Cls.drew{u:World}(h:Cls base w0 φ S w u):Cls base w0 φ S w u.drew:=
 ⟨h.wr.same_heap rfl rfl rfl rfl,fun b B l p q r=>h.same b B l p q r⟩
theorem ph(z:Array Value)(n:Nat):(Builtin.zeroCells z n).size=n*z.size:=by simp [Builtin.zeroCells]
theorem pU{H:d8}(hW:WR base w0 φ H.bs w){ts:List TypeId}{e size E n:Nat}{x x':Value}{xs:LV}{z:LV}(he:ts.head?.bind (I5 P)=some e)(hs:D8 P e=some size)(hb:V0 P e=some E)
  (hz:O9 P e=some z) (b7:E≠0) (h:aY P H size (ts[1]?) x=some (n,xs)) (hx:VR φ x x'):
  ∃xs',VRs φ xs xs'/\xs'.length=n*size/\∀D,Cls base w0 φ H.bs w D->∀bs u y ty,((u+n)*E<=140737488355328\/n=0)->(n=0->u<=y)->
   (u+n<=y->(Builtin.append_ ts.toArray ty #[.slice bs u y,x']).run P D=(match bs with
    |some a=>(storeCells (a.add (u*size)) xs').run P D
    |none=> .ok () D).andThen fun _ w2=> .ok (.slice bs (u+n) y) w2)/\
   (¬u+n<=y->∀old:LV,(∀w2,Cls base w0 φ H.bs w w2->(Builtin.firstCells size u (.slice bs u y)).run P w2= .ok old.toArray w2)->
    ∃k rest,rest.length=k*size/\(Builtin.append_ ts.toArray ty #[.slice bs u y,x']).run P D=
     .ok (.slice (some ⟨D.heap.size,0,none⟩) (u+n) (u+n+k)) (D.drew.alloc (.cells (old++xs'++rest).toArray e))):=by
 obtain⟨t,ts,rfl⟩:∃t r,ts=t::r:=by cases ts with
  |nil=>simp at he
  |cons t r=>exact⟨t,r,rfl⟩
 have hu:=Z0 (by simpa using he);obtain⟨i,hi,a8⟩:∃i,P.info? e=some i/\i.bytes=E:=by
  unfold V0 at hb;cases hi:P.info? e with
  |none=>simp [hi]at hb
  |some i=>simp [hi]at hb;exact⟨i,rfl,hb⟩
 obtain⟨J,d,W,O,b1,a3,xs',hv,hl,hf⟩:∃J d,ts[0]?=some J/\P.underlying J=some d/\(d= .string\/∃e',d= .slice e')/\(∀D,(Builtin.lenOf x').run P D= .ok n D)/\
   ∃xs',VRs φ xs xs'/\xs'.length=n*size/\∀D,Cls base w0 φ H.bs w D->(Builtin.firstCells size n x').run P D= .ok xs'.toArray D:=by
  unfold aY at h;have a2:∀d,(((t::ts)[1]?).bind P.underlying)=some d->∃J,ts[0]?=some J/\P.underlying J=some d:=by
   intro d O;simp only[List.getElem?_cons_succ]at O;cases W:ts[0]? with
   |none=>simp [W]at O
   |some J=>exact⟨J,rfl,by simpa [W] using O⟩
  split at h
  .rename_i ee a m c O;obtain⟨J,X,h2⟩:=a2 _ O;simp only[Option.map_eq_some_iff,Prod.mk.injEq]at h;obtain⟨l,hl,rfl,rfl⟩:=h;obtain⟨a',c',l',rfl,e1,e2,e3⟩:=V9 hW hl hx;exact⟨J,_,X,h2,.inr ⟨_,rfl⟩,fun D=>rfl,l',e2,e1,fun D hc=>by rw[e3 D hc _ lR,List.take_of_length_le oM]⟩
  .rename_i s O;obtain⟨J,X,h2⟩:=a2 _ O;split at h
   .rename_i b2;simp only[Option.some.injEq,Prod.mk.injEq]at h;obtain⟨rfl,rfl⟩:=h;cases hx;refine⟨J,_,X,h2,.inl rfl,fun D=>rfl,s.data.toList.map S0,VRs.map _ _ _ (fun b _=> .int _ _),by subst b2;simp,fun D _=>?_⟩;simp only[Builtin.firstCells,Sem.run_pure]
    congr 1
    have:s.extract 0 s.size=s:=sM;rw[this];apply Array.toList_inj.1;simp only[Array.toList_map];rfl
   .cases h
  .cases h
 refine⟨xs',hv,hl,fun D hc bs u y ty U a9=>?_⟩;have X:(t::ts).toArray[1]?=some J:=by simpa using W
 have g0:(t::ts).toArray[0]?=some t:=sM;have b4:(typeInfo e).run P D= .ok i D:=by simp [typeInfo,hi]
 obtain⟨zv,b6,b5,b8,a6⟩:=cL hz D.drew;have b3:zv.cells.size=size:=by
  rw[hs]at a6;cases a6;rw[<-b5];simp
 simp only[Builtin.append_];simp only[g0,X,List.getElem?_toArray,List.getElem?_cons_zero,List.getElem?_cons_succ,Sem.run_bind,run_underlying hu,run_underlying O,Result.andThen_ok,C1 hs,Sem.run_pure,
  ]
 clear O;rcases b1 with rfl|⟨_,rfl⟩
 all_goals
  simp only[bF,a3,Bool.not_false,if_true,Sem.run_bind,Result.andThen_ok];refine⟨fun I=>?_,fun I old a4=>?_⟩
  .simp only[if_pos I,Sem.run_bind,hf D hc,Result.andThen_ok];cases bs<;>simp
  .have hn:n≠0:=fun h0=>I (by subst h0;simpa using a9 rfl);have a1:=U.resolve_right hn;have b0:u+n<=140737488355328:=by
    have:1<=E:=oM
    calc u+n=(u+n)*1:=sM
     _<=(u+n)*E:=Nat.mul_le_mul_left _ this
     _<=_:=a1
   have c1:¬(((u+n:Nat):Int)>IntKind.i64.max/\(False\/i.bytes=0)):=by rintro⟨h,_⟩;simp at h;omega
   have c2:¬Builtin.nextslicecap (u+n) y*i.bytes>2 ^ 48:=by
    have:=growslice_fits (need:=u+n) (old:=y) (bytes:=E) oM a1;rw[a8];omega
   have a5:(typeInfo e).run P D.drew= .ok i D.drew:=by simp [typeInfo,hi]
   have a7:(choose (Question.appendCap (u+n) y e)).run P D= .ok (u+n+D.tape D.drawn (.appendCap (u+n) y e) % (2 ^ 63-(u+n))) D.drew:=by
    rw[run_choose,if_neg (by simp [Question.forced])];rfl
   simp only[if_neg I,Sem.run_bind,b4,Result.andThen_ok,if_neg c1,if_neg c2,run_askRoom,a7,a5,a4 _ hc.drew,hf _ hc.drew,b6,newRow,newObj,Sem.run,Sem.run_pure];generalize D.tape D.drawn (.appendCap (u+n) y e) % (2 ^ 63-(u+n))=k;refine⟨k,(Builtin.zeroCells zv.cells (u+n+k-(u+n))).toList,?_,?_⟩
   .rw[Array.length_toList,ph,b3];congr 1;omega
   .have e1:old.toArray++xs'.toArray++Builtin.zeroCells zv.cells (u+n+k-(u+n))=(old++xs'++(Builtin.zeroCells zv.cells (u+n+k-(u+n))).toList).toArray:=by
     apply Array.toList_inj.1;simp
    rw[e1];rfl
end
def E5(w:World)(g:Nat)(o:Obj):World:={w with heap:=w.heap.setIfInBounds g o}
section
variable{P:Program}{base:Bs}{w0:World}{φ:List Loc}{S:List Blk}{w:World}
theorem F9(w:World)(g:Nat)(o:Obj)(h:g<w.heap.size):(E5 w g o).heap[g]?=some o:=by simp [E5,h]
theorem aG(w:World)(g j:Nat)(o:Obj)(h:g≠j):(E5 w g o).heap[j]?=w.heap[j]?:=by simp [E5,h]
theorem pJ(w:World)(g:Nat)(o h:Obj):E5 (E5 w g o) g h=E5 w g h:=by simp [E5]
theorem bu(w:World)(g:Nat)(o:Obj):But w (E5 w g o) (some g):=⟨by simp [E5],fun j _ h=>aG w g j o (fun e=>h (by rw[e]))⟩
theorem R7{w:World}{g:Nat}{o:Obj}(h:Bel base.pr w0 w)(y:¬base.pr g):Bel base.pr w0 (E5 w g o):=
 ⟨h.os,h.tape,h.output,by simpa [E5] using h.size,fun k u=>by rw[aG w g k o (fun q=>y (q▸u))];exact h.block k u⟩
theorem vy{w:World}{g:Nat}{o:Obj}(h:w.heap[g]?=some o):E5 w g o=w:=by
 obtain⟨y,u⟩:=gA h;unfold E5;have:w.heap.setIfInBounds g o=w.heap:=by
  apply Array.ext_getElem?;intro i;rw[Array.getElem?_setIfInBounds];split
  .rename_i z;subst z;simp [y,u]
  .rfl
 rw[this]
theorem gC{w:World}{g p:Nat}{cs:Array Value}{t:TypeId}{y:Nat×Nat}(h:w.heap[g]?=some (.cells cs t y))(v:Value):
  w.setCell ⟨g,p,none⟩ v=E5 w g (.cells (cs.setIfInBounds p v) t y):=by
 unfold World.setCell E5
 congr 1
 apply Array.ext_getElem?;intro i;rw[Array.getElem?_modify,Array.getElem?_setIfInBounds];by_cases z:g=i
 .subst z;have u:=(gA h).1;simp only[if_true,h,Option.map_some,u,Option.isSome_none,bF]
 .simp [z]
theorem aJ(g o:Nat)(t:TypeId)(u:Nat×Nat):∀(h:LV)(i:Nat)(cs:Array Value)(w:World),w.heap[g]?=some (.cells cs t u)->o+i+h.length<=cs.size->
  (∀p,p<o+i+h.length->w.frozen? ⟨g,p,none⟩=false)->(∀v∈h,v.oneCell'=true)->
  (storeCells ⟨g,o,none⟩ h i).run P w= .ok () (E5 w g (.cells (splice cs.toList (o+i) h).toArray t u))
 |[],i,cs,w,hg,_,_,_=>by
  simp only[storeCells,Sem.run_pure,splice,Array.toArray_toList];rw[vy hg]
 |v::h,i,cs,w,hg,hl,hf,h1=>by
  simp only[List.length_cons]at hl hf;have I:w.cell? ⟨g,o+i,none⟩=some cs[o+i]:=by
   unfold World.cell?;simp only[hg,Option.isSome_none,bF];simp
  have y:=hf (o+i) oM;have E:(store ((⟨g,o,none⟩:Addr).add i) v).run P w= .ok () (w.setCell ⟨g,o+i,none⟩ v):=by
   rw[Addr.add_none,run_store P w _ v _ (h1 v sM),I];simp only[y,bF]
  have D:=(gA hg).1;have z:=F9 w g (.cells (cs.setIfInBounds (o+i) v) t u) D;simp only[storeCells,Sem.run_bind,E,Result.andThen_ok,gC hg];rw[aJ g o t u h (i+1) _ _ z (by simp;omega) (fun p O=>?_) (fun v J=>h1 v (by simp [J]))]
  .rw[pJ];simp only[splice,Array.toList_setIfInBounds];rw[Nat.add_assoc]
  .have:=hf p oM;rw[<-gC hg,World.frozen?_setCell];exact this
theorem Y9:∀(xs:LV)(c:LV)(o i:Nat),o+xs.length<=c.length->(splice c o xs)[i]?=if o<=i/\i<o+xs.length then xs[i-o]? else c[i]?
 |[],c,o,i,h=>by simp [splice];omega
 |x::xs,c,o,i,h=>by
  simp only[List.length_cons]at h;rw[splice,Y9 xs (c.set o x) (o+1) i (by simp;omega)];simp only[List.length_cons,List.getElem?_set];by_cases u:o=i
  .subst u;have:¬(o+1<=o/\o<o+1+xs.length):=oM;simp [this,show o<c.length from oM]
  .by_cases y:o+1<=i/\i<o+1+xs.length
   .rw[if_pos y,if_pos oM,show i-o=(i-(o+1))+1 from oM];simp
   .rw[if_neg y,if_neg u,if_neg oM]
theorem fa:∀(xs c:LV)(o:Nat)(v:Value),v∈splice c o xs->v∈c\/v∈xs
 |[],c,o,v,h=> .inl h
 |x::xs,c,o,v,h=>by
  rcases fa xs (c.set o x) (o+1) v h with h|h
  .rcases List.mem_or_eq_of_mem_set h with h|h
   .exact .inl h
   .exact .inr (by simp [h])
  .exact .inr (by simp [h])
theorem WR.alloc{w1:World}(h:WR base w0 φ S w)(D:w1.heap=w.heap)(ho:w1.os=w.os)(ht:w1.tape=w.tape)(hu:w1.output=w.output){c xs rest:LV}{e:TypeId}{sz:Nat}(W:VRs φ c xs)(E:∀x∈c,x.oneCell'=true):
  WR base w0 (φ++[⟨w.heap.size,0,xs.length+rest.length,sz⟩]) (S++[.cells c true sz]) (w1.alloc (.cells (xs++rest).toArray e))/\
   ∀(k:Nat)(o:Obj),w.heap[k]?=some o->(w1.alloc (.cells (xs++rest).toArray e)).heap[k]?=some o:=by
 have z:∀k,k<w.heap.size->(w1.alloc (.cells (xs++rest).toArray e)).heap[k]?=w.heap[k]?:=fun k I=>by
  rw[Below.heap_alloc _ _ _ (by rw[D];exact I),D]
 have u:(w1.alloc (.cells (xs++rest).toArray e)).heap[w.heap.size]?=some (.cells (xs++rest).toArray e):=by
  rw[<-D];exact heap_alloc_new w1 _
 refine⟨h.push (l:=⟨w.heap.size,0,xs.length+rest.length,sz⟩) ⟨by simp [D],fun j hj _=>z j hj⟩ ?_ (fun _=>lR) ?_,fun k o I=>by rw[z k (gA I).1];exact I⟩
 .exact(h.same_heap D ho ht hu).below.alloc (by rw[D];exact h.size) _
 .have O:=Ext.snoc φ ⟨w.heap.size,0,xs.length+rest.length,sz⟩;refine⟨rfl,E,fun i x U=>?_,(by intro hf;cases hf),fun _=>⟨dV h.size,by show c.length<=xs.length+rest.length;rw[W.1];omega,_,e,(0,0),u,by simp,fun i U=>?_⟩⟩
  .obtain⟨y,X,hv⟩:=W.get U;refine⟨y,?_,hv.mono O⟩;unfold World.cell?;simp only[u,Option.isSome_none,bF,Nat.zero_add];have J:i<xs.length:=(gS X).1;simp [List.getElem?_append_left J,X]
  .unfold World.frozen?;simp only[u];simp
def bK(P:Program)(base:Bs)(w0:World)(φ:List Loc)(S:List Blk)(low:Nat)(S':List Blk)(w:World)(s:Sem Value)(v:Value):Prop:=
 ∃v' w' φ',s.run P w= .ok v' w'/\Ext φ φ'/\VR φ' v v'/\WR base w0 φ' S' w'/\Fr φ S low w w'
theorem Fr.of_old{z:Nat}{E:World}(h:WR base w0 φ S w)(O:∀(k:Nat)(o:Obj),w.heap[k]?=some o->E.heap[k]?=some o):Fr φ S z w E:=by
 intro b B l _ I J U;have u:=h.blk b B l I U;have:∃o,w.heap[l.blk]?=some o:=by
  by_cases y:B.mine=true
  .have:=(u.lt y).2;exact⟨_,Array.getElem?_eq_getElem this⟩
  .cases B with
   |dead=>exact absurd rfl J
   |cells c own sz=>
    have:own=false:=by simpa [Blk.mine] using y
    subst this;exact⟨_,Array.getElem?_eq_getElem (h.size _ u.below)⟩
   |map W=>exact absurd rfl y
   |iter s p=>exact absurd rfl y
 obtain⟨o,D⟩:=this;rw[D,O _ _ D]
theorem Fr.of_put{z b:Nat}{B:Blk}{l:Loc}{o:Obj}(h:WR base w0 φ S w)(E:S[b]?=some B)(I:φ[b]?=some l)(O:B.mine=true)(J:z<=b):Fr φ S z w (E5 w l.blk o):=by
 intro c C lc hc D X y;refine aG w _ _ _ ?_;by_cases u:C.mine=true
 .exact h.sep b c B C l lc oM E D O u I y
 .cases C with
  |dead=>exact absurd rfl X
  |cells cc own sz=>
   have:own=false:=by simpa [Blk.mine] using u
   subst this;have U:=(h.blk c _ lc D y).below;have W:=((h.blk b B l E I).lt O).1;exact fun q=>W (q▸U)
  |map es=>exact absurd rfl u
  |iter s p=>exact absurd rfl u
theorem Cx{t:TypeId}{H H':d8}{a x a' D:Value}(hW:WR base w0 φ H.bs w)(h:sto P t H a x=some H')(ha:VR φ a a')(hx:VR φ x D):
  ∃w',(Instr.storeAt t a' D).run P w= .ok () w'/\WR base w0 φ H'.bs w'/\Fr φ H.bs H'.low w w':=by
 unfold sto at h;split at h
 rotate_left
 .cases h
 rename_i b o;split at h
 rotate_left
 .cases h
 rename_i c sz hg;split at h
 rotate_left
 .cases h
 rename_i I;obtain⟨hs,a4,u⟩:=I;cases h;cases ha with
 |ptr hl=>
  rename_i l;obtain⟨l',a3,a7⟩:=hW.loc hg;rw[hl]at a3;cases a3;obtain⟨h0,J,h1,h2,h3⟩:=a7;obtain⟨hb,a1,cs,tt,fz,hh,b1,a2⟩:=h3 rfl;have X:=hx.cells u;have a6:=X.1;have U:∀v∈D.cells.toList,v.oneCell'=true:=by
   intro v W;obtain⟨i,hi⟩:=List.getElem?_of_mem W;have a8:i<x.cells.toList.length:=by rw[a6];exact(gS hi).1
   have:=X.2 i x.cells.toList[i] v (by simp [a8]) hi;have ho:=List.all_eq_true.1 u x.cells.toList[i] sM;rw[this.oneCell ho];exact ho
  have a5:=aJ (P:=P) l.blk (l.off+o) tt fz D.cells.toList 0 cs w hh oM (fun p hp=>a2 p oM) U;refine⟨E5 w l.blk (.cells (splice cs.toList (l.off+o+0) D.cells.toList).toArray tt fz),?_,hW.put (l:=l) hg hl rfl (bu w l.blk _) (R7 hW.below hb) ?_,Fr.of_put hW hg hl rfl (Nat.min_le_right _ _)⟩
  .have b0:D.cells.toList.length=x.cells.toList.length:=a6.symm;have:D.cells.size=x.cells.toList.length:=by rw[<-b0];simp
   simp only[Instr.storeAt,Instr.sureAddr,storeVar,Sem.run_bind,Sem.run_pure,Result.andThen_ok,C1 hs,this,ne_eq,not_true_eq_false,if_false];exact a5
  .have O:=(gA hh).1;refine⟨h0,fun v W=>(fa _ _ _ v W).elim (J v) (fun h=>List.all_eq_true.1 u v h),fun i y hy=>?_,(by intro hf;cases hf),fun _=>⟨hb,by rw[E3];exact a1,_,tt,fz,F9 w _ _ O,by simp [E3];exact b1,fun i hi=>?_⟩⟩
   .rw[Y9 _ _ _ _ a4]at hy;have E:∀j,(E5 w l.blk (.cells (splice cs.toList (l.off+o+0) D.cells.toList).toArray tt fz)).cell? ⟨l.blk,j,none⟩=(splice cs.toList (l.off+o) D.cells.toList)[j]?:=by
     intro j;unfold World.cell?;simp [F9 w _ _ O]
    rw[E,Y9 _ _ _ _ (by have:cs.toList.length=cs.size:=sM;omega)];split at hy
    .rename_i a9;obtain⟨z,hz,W⟩:=X.get hy;refine⟨z,?_,W⟩;rw[if_pos oM,show l.off+i-(l.off+o)=i-o from oM];exact hz
    .rename_i a9;obtain⟨z,hz,W⟩:=h1 i y hy;refine⟨z,?_,W⟩;rw[if_neg oM];unfold World.cell? at hz
     simpa [hh] using hz
   .have:=a2 i hi;unfold World.frozen? at this ⊢;simp only[hh]at this;simp only[F9 w _ _ O];exact this
theorem jA{l:LV}(h:l.all Ve.na0=true):∀x∈l,x.oneCell'=true:=fun x u=>by
 have:=List.all_eq_true.1 h x u;unfold Ve.na0 at this;split at this<;>first|rfl|cases this
theorem Q2{l:Loc}(h:WR base w0 φ S w):(φ++[l])[S.length]?=some l:=by rw[<-h.len];simp
theorem cF{H:d8}(y:WR base w0 φ H.bs w){s:Sem Value}{c xs rest:LV}{e:TypeId}{sz u:Nat}{v v':Value}{w1:World}(E:w1.heap=w.heap)(I:w1.os=w.os)(O:w1.tape=w.tape)(U:w1.output=w.output)
  (X:VRs φ c xs) (h:∀x∈c,x.oneCell'=true) (J:s.run P w= .ok v' (w1.alloc (.cells (xs++rest).toArray e))) (W:VR (φ++[⟨w.heap.size,0,xs.length+rest.length,sz⟩]) v v'):
  bK P base w0 φ H.bs u (H.push (.cells c true sz)).bs w s v:=by
 obtain⟨z,D⟩:=y.alloc (e:=e) (rest:=rest) (sz:=sz) E I O U X h;exact⟨v',_,_,J,Ext.snoc _ _,W,z,Fr.of_old y D⟩
theorem tg{H:d8}(y:WR base w0 φ H.bs w){t:TypeId}{z:LV}(I:O9 P t=some z)(h:Nat):
  bK P base w0 φ H.bs h (H.push (.cells z true 1)).bs w (Instr.alloc t true (.tuple #[])) (.pointer (some ⟨H.next,0,none⟩)):=by
 obtain⟨J,D,E,u,O⟩:=cL I w;subst E;refine cF y (w1:=w) (xs:=J.cells.toList) (rest:=[]) (e:=t) rfl rfl rfl rfl (VRs.na0 u) (jA u) (v':= .pointer (some ⟨w.heap.size,0,none⟩)) ?_ ?_
 .simp only[Instr.alloc,Sem.run_bind,D,Result.andThen_ok,newVar,newRow,newObj,Sem.run,Sem.run_pure,List.append_nil,Array.toArray_toList];rfl
 .exact VR.ptr (l:=⟨w.heap.size,0,_,1⟩) (o:=0) (Q2 y)
theorem Ax{H:d8}(D:WR base w0 φ H.bs w){t:TypeId}{x z:Value}(u:VR φ x z)(h:x.cells.toList.all oC=true)(y:Nat):
  bK P base w0 φ H.bs y (H.push (.cells x.cells.toList true 1)).bs w (Instr.box t z) (.pointer (some ⟨H.next,0,none⟩)):=by
 refine cF D (w1:=w) (xs:=z.cells.toList) (rest:=[]) (e:=t) rfl rfl rfl rfl (u.cells h) (fun x u=>List.all_eq_true.1 h x u) (v':= .pointer (some ⟨w.heap.size,0,none⟩)) ?_ ?_
 .simp only[Instr.box,Sem.run_bind,newVar,newRow,newObj,Sem.run,Sem.run_pure,Result.andThen_ok,List.append_nil,Array.toArray_toList];rfl
 .exact VR.ptr (l:=⟨w.heap.size,0,_,1⟩) (o:=0) (Q2 D)
theorem Mm(z:LV)(n:Nat)(D:z.length≠0):((List.range (n*z.length)).map fun i=>z.toArray[i % z.toArray.size]!)=(List.replicate n z).flatten:=by
 induction n with
 |zero=>simp
 |succ n u=>
  rw[Nat.succ_mul,List.range_add,List.map_append,u,List.replicate_succ',List.flatten_append]
  congr 1
  simp only[List.map_map,List.flatten_cons,List.flatten_nil,List.append_nil];apply List.ext_getElem
  .simp
  .intro i h y;simp only[List.length_map,List.length_range]at h;simp only[List.getElem_map,List.getElem_range,Function.comp_apply,List.size_toArray];rw[Nat.mul_add_mod_self_right,Nat.mod_eq_of_lt h];simp [h]
theorem un{y:Nat->Option (Nat×Nat)}:∀{u:List (Nat×Value)}{cs l:LV},T4 y cs u=some l->(∀x∈cs,x.oneCell'=true)->(∀p∈u,∀x∈p.2.cells.toList,x.oneCell'=true)->∀x∈l,x.oneCell'=true:=by
 intro u;induction u with
 |nil=>intro cs l h z _;simp only[T4,Option.some.injEq]at h;subst h;exact z
 |cons p u J=>
  intro cs l h z D;obtain⟨i,v⟩:=p;simp only[T4]at h;split at h
  .cases h
  .split at h
   .cases h
   .exact J h (fun x I=>(fa _ _ _ x I).elim (z x) (D (i,v) sM x)) (fun p E=>D p (by simp [E]))
theorem jW{H H':d8}(hW:WR base w0 φ H.bs w){t:TypeId}{u:Nat}{D y:List (Nat×Value)}{v:Value}(h:Q7 P H t u D=some (v,H'))(X:iY φ D y)(a1:Nat):
  bK P base w0 φ H.bs a1 H'.bs w (Instr.buildSlice t u y.toArray) v:=by
 unfold Q7 at h;split at h
 rotate_left
 .cases h
 rename_i e he;have hu:=Z0 he;split at h
 rotate_left
 .cases h
 rename_i z hz;split at h
 .cases h
 rename_i hb;split at h
 rotate_left
 .cases h
 rename_i cs O;cases h;obtain⟨E,h1,h2,h3,h4⟩:=cL hz w;subst h2;have U:E.cells.toList.length≠0:=fun h=>hb (.inl h);have a2:E.cells.size=E.cells.toList.length:=sM;obtain⟨cs',W,e2⟩:=eO O (φ:=φ) (cs':=(List.replicate u E.cells.toList).flatten) (VRs.na0 (by
  simp only[List.all_flatten,List.all_replicate];simp [h3])) X
 refine cF hW (w1:=w) (xs:=cs') (rest:=[]) (e:=e) rfl rfl rfl rfl e2 (un O (jA (by simp only[List.all_flatten,List.all_replicate];simp [h3])) (fun p X=>by
   have:=(Bool.not_eq_false _).mp (fun h=>hb (.inr (.inr h)));exact fun x hx=>List.all_eq_true.1 (List.all_eq_true.1 this p X) x hx)) (v':= .slice (some ⟨w.heap.size,0,none⟩) u u) ?_ ?_
 .have I:(Array.range (u*E.cells.toList.length)).map (fun i=>E.cells[i % E.cells.size]!)=(List.replicate u E.cells.toList).flatten.toArray:=by
   apply Array.toList_inj.1;rw[<-Mm E.cells.toList u U];simp
  have c1:¬u*E.cells.toList.length>2 ^ 24:=oM;by_cases J:u*E.cells.toList.length=0
  .have:u=0:=by
    rcases Nat.mul_eq_zero.1 J with h|h
    .exact h
    .exact absurd h U
   subst this;simp only[List.replicate_zero,List.flatten_nil]at W;simp only[Instr.buildSlice,Sem.run_bind,run_underlying hu,Result.andThen_ok,C1 h4,if_neg c1,J,if_true,Sem.run_pure];simp only[Array.range_zero',Array.map_empty,W,Sem.run_bind,newRow,newObj,Sem.run,Sem.run_pure,Result.andThen_ok,List.append_nil];rfl
  .simp only[Instr.buildSlice,Sem.run_bind,run_underlying hu,Result.andThen_ok,C1 h4,if_neg c1,if_neg J,h1,Sem.run_pure,I,W,newRow,newObj,Sem.run,List.append_nil];rfl
 .exact VR.exact (l:=⟨w.heap.size,0,_,_⟩) (o:=0) (Q2 hW)
theorem lJ{H H':d8}(hW:WR base w0 φ H.bs w){t:TypeId}{x y x' y' v:Value}(h:N0 P H t x y=some (v,H'))(hx:VR φ x x')(hy:VR φ y y')(a5:Nat):
  bK P base w0 φ H.bs a5 H'.bs w (Instr.makeSlice t x' y') v:=by
 unfold N0 at h;split at h
 rotate_left
 .cases h
 rename_i e k n k' m he;have hu:=Z0 he;split at h
 rotate_left
 .cases h
 rename_i z a3 hz E;split at h
 rotate_left
 .cases h
 rename_i J;obtain⟨a1,a8,a9,a6,a7⟩:=J;cases h;cases hx;cases hy;obtain⟨u,h1,h2,h3,h4⟩:=cL hz w;subst h2;obtain⟨i,hi,U⟩:∃i,P.info? e=some i/\i.bytes=a3:=by
  unfold V0 at E;cases hi:P.info? e with
  |none=>simp [hi]at E
  |some i=>simp [hi]at E;exact⟨i,rfl,E⟩
 have X:(typeInfo e).run P w= .ok i w:=by simp [typeInfo,hi]
 have wn:IntKind.i64.wrap n=n:=wrap_small n oM oM;have wm:IntKind.i64.wrap m=m:=wrap_small m oM oM;have D:(List.replicate m.toNat u.cells.toList).flatten=(List.replicate n.toNat u.cells.toList).flatten++(List.replicate (m.toNat-n.toNat) u.cells.toList).flatten:=by
  rw[<-List.flatten_append,List.replicate_append_replicate]
  congr 2
  omega
 have W:((List.replicate n.toNat u.cells.toList).flatten.length+(List.replicate (m.toNat-n.toNat) u.cells.toList).flatten.length)=m.toNat*u.cells.toList.length:=by
  rw[<-List.length_append,<-D];simp
 refine cF hW (w1:=w) (xs:=(List.replicate n.toNat u.cells.toList).flatten) (rest:=(List.replicate (m.toNat-n.toNat) u.cells.toList).flatten) (e:=e) rfl rfl rfl rfl
  (VRs.na0 (by simp only[List.all_flatten,List.all_replicate];simp [h3])) (jA (by simp only[List.all_flatten,List.all_replicate];simp [h3])) (v':= .slice (some ⟨w.heap.size,0,none⟩) n.toNat m.toNat) ?_ ?_
 .rw[<-D];have c1:¬(m<0\/(i.bytes:Int)*m>2 ^ 48):=by rw[U];omega
  have c2:¬((decide (m<0)||decide ((i.bytes:Int)*m>2 ^ 48)||decide (n<0)||decide (n>m))=true):=by
   rw[U];simp only[Bool.or_eq_true,decide_eq_true_eq];omega
  have a2:(if m.toNat*u.cells.toList.length=0 then(#[]:Array Value) else u.cells)=u.cells\/m.toNat*u.cells.toList.length=0:=by
   by_cases O:m.toNat*u.cells.toList.length=0
   .exact .inr O
   .left;rw[if_neg O]
  have I:(Array.range (m.toNat*u.cells.toList.length)).map (fun i=>u.cells[i % u.cells.size]!)=(List.replicate m.toNat u.cells.toList).flatten.toArray:=by
   apply Array.toList_inj.1;rw[<-Mm u.cells.toList m.toNat a1];simp
  by_cases O:m.toNat*u.cells.toList.length=0
  .have a4:m.toNat=0:=by
    rcases Nat.mul_eq_zero.1 O with h|h
    .exact h
    .exact absurd h a1
   simp only[Instr.makeSlice,Sem.run_bind,run_underlying hu,Result.andThen_ok,asInt,asIntOf,Sem.run_pure,X,wn,wm,c2,if_false,run_askRoom,C1 h4,O,if_true,newRow,newObj,Sem.run];simp only[a4,Sem.run_bind,run_askRoom,C1 h4,Nat.zero_mul,if_true,Sem.run_pure,Sem.run,Array.range_zero',Array.map_empty,List.replicate_zero,List.flatten_nil,bF,Result.andThen_ok];rfl
  .simp only[Instr.makeSlice,Sem.run_bind,run_underlying hu,Result.andThen_ok,asInt,asIntOf,Sem.run_pure,X,wn,wm,c2,if_false,run_askRoom,C1 h4,if_neg O,h1,newRow,newObj,Sem.run,I,Bool.false_eq_true];rfl
 .refine VR.slice (l:=⟨w.heap.size,0,_,_⟩) (o:=0) (Q2 hW) oM ?_;simp only[Nat.zero_add];rw[W];exact lR
theorem vd{H:d8}(u:WR base w0 φ H.bs w){B:Blk}{o:Obj}(z:∀E,BR base E B ⟨w.heap.size,0,0,0⟩ (w.alloc o)):WR base w0 (φ++[⟨w.heap.size,0,0,0⟩]) (H.push B).bs (w.alloc o)/\∀h,Fr φ H.bs h w (w.alloc o):=by
 refine⟨u.push (l:=⟨w.heap.size,0,0,0⟩) ⟨by simp,fun j D _=>Below.heap_alloc _ _ _ D⟩ (u.below.alloc u.size _) (fun _=>lR) (z _),fun h=>Fr.of_old u fun k I y=>?_⟩;rw[Below.heap_alloc _ _ _ (gA y).1];exact y
theorem pC{H:d8}(u:WR base w0 φ H.bs w)(t:TypeId)(h:Nat):
  bK P base w0 φ H.bs h (H.push (.map [])).bs w (Instr.makeMap t none) (.map (some H.next)):=by
 obtain⟨y,z⟩:=vd u (B:= .map []) (o:= .map #[] 0) (fun D=>⟨dV u.size,#[],0,heap_alloc_new w _,rfl,fun i k v m p=>by simp at p⟩);refine⟨.map (some w.heap.size),w.alloc (.map #[] 0),_,?_,Ext.snoc _ _,VR.map (l:=⟨w.heap.size,0,0,0⟩) (Q2 u),y,z h⟩;simp only[Instr.makeMap,Sem.run_bind,newObj,Sem.run,Result.andThen_ok,Sem.run_pure];rfl
theorem vi{H:d8}(u:WR base w0 φ H.bs w){t:TypeId}{s:ByteArray}(D:P.underlying t=some .string)(h:Nat):
  bK P base w0 φ H.bs h (H.push (.iter s 0)).bs w (Instr.range t (.string s)) (.pointer (some ⟨H.next,0,none⟩)):=by
 obtain⟨y,z⟩:=vd u (B:= .iter s 0) (o:= .stringIter s 0) (fun E=>⟨dV u.size,rfl,heap_alloc_new w _⟩);refine⟨.pointer (some ⟨w.heap.size,0,none⟩),w.alloc (.stringIter s 0),_,?_,Ext.snoc _ _,VR.ptr (l:=⟨w.heap.size,0,0,0⟩) (o:=0) (Q2 u),y,z h⟩;simp only[Instr.range,Sem.run_bind,run_underlying D,Result.andThen_ok,Sem.run_pure,newObj,Sem.run];rfl
theorem fg{r:Nat}{o:Obj}{w:World}(h:w.heap[r]?=some o)(u:∀c t f,o≠ .cells c t f):(getObj r).run P w= .ok o w:=by
 unfold getObj;simp only[Sem.run,h]
 try (split<;>first|(exfalso;exact u _ _ _ rfl)|rfl)
theorem iO{r:Nat}{o u:Obj}{w:World}(h:w.heap[r]?=some o)(y:∀c t f,o≠ .cells c t f):(setObj r u).run P w= .ok () (E5 w r u):=by
 unfold setObj;simp only[Sem.run,h];cases o<;>first|rfl|exact absurd rfl (y _ _ _)
theorem BS{H H':d8}{it D v:Value}(E:WR base w0 φ H.bs w)(h:jB H it=some (v,some H'))(hi:VR φ it D)(ty:TypeId):
  bK P base w0 φ H.bs H'.low H'.bs w (Instr.next D true ty) v:=by
 unfold jB at h;split at h
 rotate_left
 .cases h
 rename_i b;split at h
 rotate_left
 .cases h
 rename_i s u J;split at h
 rotate_left
 .simp at h
 rename_i z;simp only[Option.some.injEq,Prod.mk.injEq]at h;obtain⟨rfl,rfl⟩:=h;cases hi with
 |ptr U=>
  rename_i l;obtain⟨l',y,I⟩:=E.loc J;rw[U]at y;cases y;obtain⟨hb,W,O⟩:=I;have X:=(gA O).1;refine⟨.tuple #[.bool true,goInt u,.int .i32 (Utf8.decode s u).1],E5 w l.blk (.stringIter s (u+(Utf8.decode s u).2)),φ,?_,Ext.refl φ,VR.na (by rfl),
   E.put (l:=l) J U rfl (bu w l.blk _) (R7 E.below hb) ⟨hb,W,F9 w _ _ X⟩,Fr.of_put E J U rfl (Nat.min_le_right _ _)⟩
  have hz:l.off+0=0:=oM;rw[hz];simp only[Instr.next,Sem.run_bind,fg O sM,Result.andThen_ok,if_pos z,iO O sM,Sem.run_pure]
theorem BQ{H:d8}{it z v:Value}(U:WR base w0 φ H.bs w)(h:jB H it=some (v,none))(hi:VR φ it z)(ty:TypeId):iW P base w0 φ H.bs w (Instr.next z true ty) v:=by
 unfold jB at h;split at h
 rotate_left
 .cases h
 rename_i b;split at h
 rotate_left
 .cases h
 rename_i s I J;split at h
 .simp at h
 rename_i y;simp only[Option.some.injEq,Prod.mk.injEq]at h;obtain⟨rfl,_⟩:=h;cases hi with
 |ptr O=>
  rename_i l;obtain⟨l',u,D⟩:=U.loc J;rw[O]at u;cases u;obtain⟨hb,a1,X⟩:=D;refine⟨.tuple #[.bool false],VR.na (by rfl),fun w' W=>?_⟩;have E:w'.heap[l.blk]?=some (.stringIter s I):=by rw[W.same _ _ l J sM O];exact X
  have hz:l.off+0=0:=oM;rw[hz];simp only[Instr.next,Sem.run_bind,fg E sM,Result.andThen_ok,if_neg y,Sem.run_pure]
theorem qy{k:Q5}{x:Value}(h:nJ k x=true)(n:Nat):Instr.sameBits n x x=true:=by
 unfold nJ at h;split at h
 .simp [Instr.sameBits]
 .simp [Instr.sameBits]
 .simp [Instr.sameBits,jX]
 .cases h
theorem uO{u:List Q5}{xs:LV}(h:X3 u xs=true)(n:Nat):((xs.zip xs).all fun(x,y)=>Instr.sameBits n x y)=true:=by
 induction u generalizing xs with
 |nil=>cases xs with
  |nil=>rfl
  |cons _ _=>cases h
 |cons k u z=>
  cases xs with
  |nil=>cases h
  |cons x xs=>
   simp only[X3,Bool.and_eq_true]at h;simp only[List.zip_cons_cons,List.all_cons,qy h.1,Bool.true_and];exact z h.2
theorem uL{z:TypeId}{k:Value}(h:bh P z k=true):Instr.sameBits 10000 k k=true:=by
 unfold bh at h;split at h
 .show Instr.sameBits (9999+1) _ _=true;simp only[Instr.sameBits,beq_self_eq_true,Bool.true_and];exact uO h _
 .rename_i E y u;obtain⟨D,rfl⟩:=jn (S7 y).2 u;simp only[X3,Bool.and_true]at h;exact qy h _
 .cases h
theorem lL{H H':d8}{t:TypeId}{m k v m' D v':Value}(E:WR base w0 φ H.bs w)(h:Y7 P H t m k v=some H')(hm:VR φ m m')(hk:VR φ k D)(hv:VR φ v v'):
  ∃w',(Instr.mapUpdate t m' D v').run P w= .ok () w'/\WR base w0 φ H'.bs w'/\Fr φ H.bs H'.low w w':=by
 unfold Y7 at h;split at h
 rotate_left
 .cases h
 rename_i kt et a8;have hu:=qR a8;split at h
 rotate_left
 .cases h
 rename_i y;obtain rfl:=kS y hk;split at h
 rotate_left
 .cases h
 rename_i b;split at h
 rotate_left
 .cases h
 rename_i es X;cases hm with
 |map hl=>
  rename_i l;obtain⟨l',a4,a7⟩:=E.loc X;rw[hl]at a4;cases a4;obtain⟨hb,u,U,W,O,h3⟩:=a7;have a5:=(gA W).1;split at h
  .rename_i j va hf;cases h;obtain⟨r',f1,f2⟩:=bA (φ:=φ) y hf (by simpa using O.symm) (fun j a m p q=>h3 j a.1 a.2 m p q);cases r' with
   |none=>exact f2.elim
   |some q=>
    obtain⟨j',v2⟩:=q;obtain⟨rfl,g2,g3,g4⟩:=f2;have a2:j<u.size:=by rw[O];exact(gS g3).1
    obtain⟨en,I⟩:∃en,u[j]?=some en:=⟨u[j],by simp [a2]⟩
    have a3:en.key=D:=by
     have:u.toList[j]?=some en:=by simpa using I
     rw[this]at g4;simpa using g4
    have J:(Instr.keyThatStays (((u[j]?).map (·.key)).getD D) D).run P w= .ok D w:=by
     rw[I];simp only[Option.map_some,Option.getD_some,a3,Instr.keyThatStays];rw[if_pos (uL y)];rfl
    refine⟨E5 w l.blk (.map (u.modify j fun e=>{e with key:=D,val:=v'}) U),?_,E.put (l:=l) X hl rfl (bu w l.blk _) (R7 E.below hb) ⟨hb,_,U,F9 w _ _ a5,by simp [O],?_⟩,Fr.of_put E X hl rfl (Nat.min_le_right _ _)⟩
    .simp only[Instr.mapUpdate,Sem.run_bind,run_underlying hu,Result.andThen_ok,fg W sM,aB y,f1,J,iO W sM]
    .intro i k1 v1 m1 p q;rw[List.getElem?_set]at p;have z:(u.modify j fun e=>{e with key:=D,val:=v'})[i]?=some m1:=by rw[Array.getElem?_toList]at q;exact q
     rw[Array.getElem?_modify]at z;by_cases a1:j=i
     .subst a1;rw[if_pos rfl]at p z;split at p
      .cases p;rw[I]at z;simp only[Option.map_some,Option.some.injEq]at z;subst z;exact⟨hk,hv⟩
      .cases p
     .rw[if_neg a1]at p z;exact h3 i k1 v1 m1 p (by simpa using z)
  .rename_i hf;cases h;obtain⟨r',f1,f2⟩:=bA (φ:=φ) y hf (by simpa using O.symm) (fun j a m p q=>h3 j a.1 a.2 m p q);cases r' with
   |some q=>exact f2.elim
   |none=>
    refine⟨E5 w l.blk (.map (u.push {key:=D,val:=v',born:=U}) (U+1)),?_,E.put (l:=l) X hl rfl (bu w l.blk _) (R7 E.below hb) ⟨hb,_,_,F9 w _ _ a5,by simp [O],?_⟩,Fr.of_put E X hl rfl (Nat.min_le_right _ _)⟩
    .simp only[Instr.mapUpdate,Sem.run_bind,run_underlying hu,Result.andThen_ok,fg W sM,aB y,f1,iO W sM]
    .intro i k1 v1 m1 p q;have z:(u.push {key:=D,val:=v',born:=U})[i]?=some m1:=by rw[Array.getElem?_toList]at q;exact q
     rw[Array.getElem?_push]at z;by_cases hi:i=u.size
     .rw[if_pos hi]at z;cases z;rw[hi,O]at p;simp at p;obtain⟨rfl,rfl⟩:=p;exact⟨hk,hv⟩
     .rw[if_neg hi]at z;have a6:i<es.length:=oN ((gA z).1);rw[List.getElem?_append_left a6]at p;exact h3 i k1 v1 m1 p (by simpa using z)
  .cases h
end
section
variable{P:Program}{base:Bs}{w0:World}{φ:List Loc}{S:List Blk}{w:World}
theorem WR.move{w':World}(h:WR base w0 φ S w){b:Nat}{B X:Blk}{l l2:Loc}(hb:S[b]?=some B)(hl:φ[b]?=some l)(hm:B.mine=true)
  (hw:But w w' (some l.blk)) (a1:Bel base.pr w0 w') (he:l2.blk=l.blk) (hB:BR base (φ++[l2]) X l2 w'):WR base w0 (φ++[l2]) (S.set b .dead++[X]) w':=by
 have hx:Ext φ (φ++[l2]):=Ext.snoc φ l2;have a4:=(h.blk b B l hb hl).lt hm;have old:∀(c:Nat) C,(S.set b .dead++[X])[c]?=some C->(c<S.length/\(C= .dead\/(c≠b/\S[c]?=some C)))\/(c=S.length/\C=X):=by
  intro c C p;by_cases y:c<S.length
  .left
   refine⟨y,?_⟩;rw[List.getElem?_append_left (by simpa using y),List.getElem?_set]at p;by_cases u:b=c
   .subst u;rw[if_pos rfl,if_pos y]at p;exact .inl (by simpa using p.symm)
   .rw[if_neg u]at p;exact .inr ⟨fun e=>u e.symm,p⟩
  .right
   have:c<(S.set b .dead++[X]).length:=(gS p).1;simp at this;obtain rfl:c=S.length:=oM;rw[List.getElem?_append_right sM]at p;simp at p;exact⟨rfl,p.symm⟩
 have I:∀(c:Nat) lc,c<S.length->(φ++[l2])[c]?=some lc->φ[c]?=some lc:=fun c lc hc p=>by rwa [List.getElem?_append_left (by rw[h.len];exact hc)]at p
 have J:∀lc,(φ++[l2])[S.length]?=some lc->lc=l2:=fun lc p=>by rw[<-h.len]at p;simp at p;exact p.symm
 have a3:∀(c:Nat) C lc,c≠b->S[c]?=some C->C≠ .dead->φ[c]?=some lc->w'.heap[lc.blk]?=w.heap[lc.blk]?:=by
  intro c C lc u p hd q;by_cases D:C.mine=true
  .exact hw.2 _ ((h.blk c C lc p q).lt D).2 (by simp only[ne_eq,Option.some.injEq];exact h.sep b c B C l lc (fun e=>u e.symm) hb p hm D hl q)
  .cases C with
   |dead=>exact absurd rfl hd
   |cells cc own sz=>
    have:own=false:=by simpa [Blk.mine] using D
    subst this;have:=(h.blk c _ lc p q).below;exact hw.2 _ (h.size _ this) (by simp only[ne_eq,Option.some.injEq];exact fun q=>((h.blk b B l hb hl).lt hm).1 (q▸this))
   |map es=>exact absurd rfl D
   |iter s p=>exact absurd rfl D
 refine⟨by simp [h.len],a1,fun k hk=>Nat.lt_of_lt_of_le (h.size k hk) hw.1,fun c C lc p q=>?_,fun c W C C' lc E a2 p p' m m' q q'=>?_⟩
 .rcases old c C p with⟨y,rfl|⟨u,hS⟩⟩|⟨rfl,rfl⟩
  .trivial
  .have q:=I c lc y q;by_cases hd:C= .dead
   .subst hd;trivial
   .exact(h.blk c C lc hS q).mono hx (a3 c C lc u hS hd q)
  .rw[J lc q];exact hB
 .rcases old c C p with⟨y,rfl|⟨u,hS⟩⟩|⟨rfl,rfl⟩
  .cases m
  .rcases old W C' p' with⟨z,rfl|⟨O,U⟩⟩|⟨rfl,rfl⟩
   .cases m'
   .exact h.sep c W C C' lc E a2 hS U m m' (I c lc y q) (I W E z q')
   .rw[J E q',he];exact h.sep c b C B lc l u hS hb m hm (I c lc y q) hl
  .rcases old W C' p' with⟨z,rfl|⟨O,U⟩⟩|⟨rfl,rfl⟩
   .cases m'
   .rw[J lc q,he];exact fun e=>h.sep W b C' B E l O U hb m' hm (I W E z q') hl e.symm
   .exact absurd rfl a2
theorem gD{H:d8}{size n c:Nat}{a:Option Addr}{l:LV}(h:A5 H size (.slice a n c)=some l):l.length=n*size:=by
 unfold A5 at h;split at h
 .rename_i e;cases e;cases h;simp
 .rename_i e;cases e;split at h
  .rename_i u;cases h;subst u;simp
  .split at h
   .split at h
    .cases h;simp;omega
    .cases h
   .cases h
 .cases h
theorem gE{H:d8}(z:WR base w0 φ H.bs w){size n c:Nat}{a:Option Addr}{l:LV}(h:A5 H size (.slice a n c)=some l):∀x∈l,x.oneCell'=true:=by
 unfold A5 at h;split at h
 .cases h;intro x u;cases u
 .split at h
  .cases h;intro x u;cases u
  .split at h
   .rename_i cs own sz D;split at h
    .cases h;obtain⟨l,E,y⟩:=z.loc D;exact fun x u=>y.2.1 x (List.mem_of_mem_drop (List.mem_of_mem_take u))
    .cases h
   .cases h
 .cases h
theorem Af{H:d8}(y:WR base w0 φ H.bs w){D:Option TypeId}{size n:Nat}{x:Value}{xs:LV}(h:aY P H size D x=some (n,xs)):(∀x∈xs,x.oneCell'=true)/\xs.length=n*size:=by
 unfold aY at h;split at h
 .simp only[Option.map_eq_some_iff,Prod.mk.injEq]at h;obtain⟨l,u,rfl,rfl⟩:=h;exact⟨gE y u,gD u⟩
 .split at h
  .rename_i hs;simp only[Option.some.injEq,Prod.mk.injEq]at h;obtain⟨rfl,rfl⟩:=h;subst hs;exact⟨fun x z=>by obtain⟨b,_,rfl⟩:=List.mem_map.1 z;rfl,by simp⟩
  .cases h
 .cases h
theorem to{H:d8}{ts:List TypeId}{s x J x' v:Value}(hW:WR base w0 φ H.bs w)(h:C2 P H ts s x=some (v,none))(hs:VR φ s J)(hx:VR φ x x')(ty:TypeId):
  iW P base w0 φ H.bs w (Builtin.append_ ts.toArray ty #[J,x']) v:=by
 unfold C2 at h;split at h
 .cases h
 rename_i e he;split at h
 rotate_left
 .cases h
 rename_i size a5 z a2 O hz;split at h
 .cases h
 rename_i X;split at h
 .cases h
 rename_i n xs E;obtain⟨xs',hv,hl,I⟩:=pU hW he a2 O hz (fun h=>X (.inr h)) E hx;have u:∀a m c,n=0->m<=c->J= .slice a m c->VR φ v (.slice a m c)->iW P base w0 φ H.bs w (Builtin.append_ ts.toArray ty #[J,x']) v:=by
  intro a m c y W a1 a3;subst y a1;have a4:xs'=[]:=List.length_eq_zero_iff.1 (by simpa using hl);subst a4;refine⟨_,a3,fun w' hc=>?_⟩;rw[(I w' hc a m c ty (.inr rfl) (fun _=>W)).1 oM];cases a<;>simp [storeCells]
 split at h
 .split at h
  .rename_i y;cases h;cases hs;exact u none 0 0 y lR rfl .nilslice
  .split at h<;>simp at h
 .rename_i b o a6 c;split at h
  .rename_i y;cases h;have D:=hs;cases hs with
   |slice0=>exact u _ _ _ y lR rfl D
   |exact U=>exact u _ _ _ y lR rfl D
   |slice U hn hc=>exact u _ _ _ y hn rfl D
  .split at h
   .split at h
    .split at h
     .split at h
      .simp at h
      .split at h<;>simp at h
     .cases h
    .cases h
   .cases h
 .cases h
theorem BU{H:d8}(J:WR base w0 φ H.bs w){b o h c size:Nat}{cs:LV}{own:Bool}{sz:Nat}{z:Value}(U:H.get b=some (.cells cs own sz))(y:o+h*size<=cs.length)
  (W:VR φ (.slice (some ⟨b,o,none⟩) h c) z):∃a' u old,z= .slice a' h u/\VRs φ ((cs.drop o).take (h*size)) old/\∀w2,Cls base w0 φ H.bs w w2->(Builtin.firstCells size h z).run P w2= .ok old.toArray w2:=by
 have:A5 H size (.slice (some ⟨b,o,none⟩) h c)=some ((cs.drop o).take (h*size)):=by
  simp only[A5];by_cases D:h=0
  .subst D;simp
  .rw[if_neg D,U];simp only;rw[if_pos y]
 obtain⟨a',u,old,e,X,E,I⟩:=V9 J this W;exact⟨a',u,old,e,E,fun w2 O=>by rw[I w2 O _ lR,List.take_of_length_le oM]⟩
theorem tq{H H':d8}{ts:List TypeId}{s x s' x' v:Value}(D:WR base w0 φ H.bs w)(h:C2 P H ts s x=some (v,some H'))(hs:VR φ s s')(hx:VR φ x x')(ty:TypeId):
  bK P base w0 φ H.bs H'.low H'.bs w (Builtin.append_ ts.toArray ty #[s',x']) v:=by
 unfold C2 at h;split at h
 .cases h
 rename_i e he;split at h
 rotate_left
 .cases h
 rename_i size e4 z d7 c8 hz;split at h
 .cases h
 rename_i d3;split at h
 .cases h
 rename_i n xs a5;obtain⟨xs',hv,hl,X⟩:=pU D he d7 c8 hz (fun h=>d3 (.inr h)) a5 hx;obtain⟨W,e1⟩:=Af D a5;split at h
 ·
  split at h
  .simp at h
  rename_i a3;split at h
  rotate_left
  .simp at h
  rename_i a1;simp only[Option.some.injEq,Prod.mk.injEq]at h;obtain⟨rfl,rfl⟩:=h;cases hs;obtain⟨k,rest,b6,hr⟩:=(X w D.cls none 0 0 ty (.inl (by simpa using a1)) (fun h=>absurd h a3)).2 oM [] (fun w2 _=>by simp [Builtin.firstCells]);refine cF D (w1:=w.drew) (xs:=xs') (rest:=rest) (e:=e) rfl rfl rfl rfl hv W (v':= .slice (some ⟨w.heap.size,0,none⟩) n (n+k)) (by simpa using hr) ?_;refine VR.slice (l:=⟨w.heap.size,0,_,_⟩) (o:=0) (Q2 D) oM ?_;simp only[Nat.zero_add,hl,b6,<-Nat.add_mul];exact lR
 .rename_i b o u c;split at h
  .simp at h
  rename_i a3;split at h
  rotate_left
  .cases h
  rename_i a1;split at h
  rotate_left
  .cases h
  rename_i cs own sz hg;split at h
  rotate_left
  .cases h
  rename_i b0;obtain⟨d1,rfl⟩:=b0;have b7:=hs;obtain⟨a',c',old,rfl,a6,a2⟩:=BU (P:=P) D hg d1 b7;have U:∀x∈(cs.drop o).take (u*sz)++xs,x.oneCell'=true:=by
   intro x hx;obtain⟨l,b2,a8⟩:=D.loc hg;rcases List.mem_append.1 hx with hx|hx
   .exact a8.2.1 x (List.mem_of_mem_drop (List.mem_of_mem_take hx))
   .exact W x hx
  have d4:old.length=u*sz:=by rw[<-a6.1];simp;omega
  have a4:∀(I:Nat)(S':List Blk),WR base w0 φ S' w->¬u+n<=c'->S'.length=H.bs.length->(∀I,∀w',(∀(k:Nat)(o:Obj),w.heap[k]?=some o->w'.heap[k]?=some o)->Fr φ H.bs I w w')->
    bK P base w0 φ H.bs I (S'++[.cells ((cs.drop o).take (u*sz)++xs) true sz]) w (Builtin.append_ ts.toArray ty #[.slice a' u c',x']) (.slice (some ⟨H.next,0,none⟩) (u+n) (u+n+1)):=by
   intro I S' b9 d2 c4 c9;obtain⟨k,rest,b6,hr⟩:=(X w D.cls a' u c' ty (.inl a1) (fun h=>absurd h a3)).2 d2 old a2;obtain⟨h1,h2⟩:=b9.alloc (w1:=w.drew) (c:=(cs.drop o).take (u*sz)++xs) (xs:=old++xs') (rest:=rest) (e:=e) (sz:=sz) rfl rfl rfl rfl (a6.append hv) U;refine⟨_,_,_,hr,Ext.snoc _ _,?_,h1,c9 I _ h2⟩;refine VR.slice (l:=⟨w.heap.size,0,(old++xs').length+rest.length,sz⟩) (o:=0) ?_ oM ?_
   .have:=Q2 b9 (l:=⟨w.heap.size,0,(old++xs').length+rest.length,sz⟩);rw[c4]at this;exact this
   .simp only[Nat.zero_add,List.length_append,d4,hl,b6,<-Nat.add_mul];exact lR
  split at h
  .rename_i a9;subst a9;simp only[Option.some.injEq,Prod.mk.injEq]at h;obtain⟨rfl,rfl⟩:=h;refine a4 _ H.bs D ?_ rfl (fun I w' hk=>Fr.of_old D hk);cases b7 with
   |slice0=>omega
   |exact=>omega
  .rename_i a9;split at h
   rotate_left
   .cases h
   rename_i c5;subst c5;simp only[Option.some.injEq,Prod.mk.injEq]at h;obtain⟨rfl,rfl⟩:=h;by_cases J:u+n<=c'
   ·
    cases b7 with
    |slice0=>omega
    |exact=>exact absurd rfl a9
    |slice b3 hn hc=>
     rename_i l;obtain⟨l',b2,a8⟩:=D.loc hg;rw[b3]at b2;cases b2;obtain⟨h0,c7,h1,h2,h3⟩:=a8;obtain⟨hb,e2,E,tt,fz,hh,e3,c3⟩:=h3 rfl;rw[h0]at hc;have d5:o+u*sz+n*sz<=l.cap:=by
      have:(u+n)*sz<=c'*sz:=Nat.mul_le_mul_right _ J;rw[Nat.add_mul]at this;omega
     have b5:∀v∈xs',v.oneCell'=true:=by
      intro v d9;obtain⟨i,hi⟩:=List.getElem?_of_mem d9;have d0:i<xs.length:=by rw[hv.1];exact(gS hi).1
      have:=hv.2 i xs[i] v (by simp [d0]) hi;have ho:=W xs[i] sM;rw[this.oneCell ho];exact ho
     have d6:=aJ (P:=P) l.blk (l.off+o+u*sz) tt fz xs' 0 E w hh oM (fun p hp=>c3 p oM) b5;have b4:=(gA hh).1;refine⟨.slice (some ⟨l.blk,l.off+o,none⟩) (u+n) c',E5 w l.blk (.cells (splice E.toList (l.off+o+u*sz+0) xs').toArray tt fz),φ++[⟨l.blk,l.off+o,l.cap-o,sz⟩],?_,Ext.snoc _ _,?_,?_,?_⟩
     .rw[(X w D.cls _ u c' ty (.inl a1) (fun h=>absurd h a3)).1 J];simp only[Addr.add_none,d6,Result.andThen_ok]
     .refine VR.slice (l:=⟨l.blk,l.off+o,l.cap-o,sz⟩) (o:=0) ?_ J ?_
      .have:=Q2 D (l:=⟨l.blk,l.off+o,l.cap-o,sz⟩)
       simpa [d8.next,d8.put] using this
      .simp only[Nat.zero_add];omega
     .refine D.move hg b3 rfl (bu w l.blk _) (R7 D.below hb) (l2:=⟨l.blk,l.off+o,l.cap-o,sz⟩) rfl ?_;have c6:=Ext.snoc φ ⟨l.blk,l.off+o,l.cap-o,sz⟩;have a7:∀j,(E5 w l.blk (.cells (splice E.toList (l.off+o+u*sz+0) xs').toArray tt fz)).cell? ⟨l.blk,j,none⟩=(splice E.toList (l.off+o+u*sz) xs')[j]?:=by
       intro j;unfold World.cell?;simp [F9 w _ _ b4]
      have c0:l.off+o+u*sz+xs'.length<=E.toList.length:=by
       have:E.toList.length=E.size:=sM;omega
      refine⟨rfl,U,fun i y hy=>?_,(by intro hf;cases hf),fun _=>⟨hb,?_,_,tt,fz,F9 w _ _ b4,?_,fun i hi=>?_⟩⟩
      .rw[a7,Y9 _ _ _ _ c0];have b1:((cs.drop o).take (u*sz)).length=u*sz:=by simp;omega
       by_cases hi:i<u*sz
       .rw[List.getElem?_append_left (by rw[b1];exact hi),List.getElem?_take,if_pos hi,List.getElem?_drop]at hy;obtain⟨z,O,b8⟩:=h1 _ y hy;refine⟨z,?_,b8.mono c6⟩;rw[if_neg (by show¬(l.off+o+u*sz<=l.off+o+i/\_);omega)];unfold World.cell? at O;simp only[hh,Option.isSome_none,bF]at O;show E.toList[l.off+o+i]?=some z;rw[Array.getElem?_toList,Nat.add_assoc];exact O
       .rw[List.getElem?_append_right (by rw[b1];omega),b1]at hy;obtain⟨z,O,b8⟩:=hv.get hy;refine⟨z,?_,b8.mono c6⟩;have e5:i-u*sz<xs'.length:=(gS O).1;rw[if_pos (by show l.off+o+u*sz<=l.off+o+i/\l.off+o+i<l.off+o+u*sz+xs'.length;omega)];show xs'[l.off+o+i-(l.off+o+u*sz)]?=some z;rw[show l.off+o+i-(l.off+o+u*sz)=i-u*sz from oM];exact O
      .show((cs.drop o).take (u*sz)++xs).length<=l.cap-o;simp only[List.length_append,List.length_take,List.length_drop,e1];omega
      .show l.off+o+(l.cap-o)<=_;simp [E3];omega
      .have:=c3 i (by have:i<l.off+o+(l.cap-o):=hi;omega);unfold World.frozen? at this ⊢;simp only[hh]at this;simp only[F9 w _ _ b4];exact this
     .exact Fr.of_put D hg b3 rfl (Nat.min_le_right _ _)
   .exact a4 _ (H.bs.set b .dead) (D.kill b) J sM (fun I w' hk=>Fr.of_old D hk)
 .cases h
theorem tW{H:d8}(hW:WR base w0 φ H.bs w){ts:List TypeId}{e size:Nat}(E:ts.head?.bind (I5 P)=some e)(hs:D8 P e=some size){sa:Option Addr}{h J dn:Nat}{I:Value}{O:LV}
  (hx:A5 H size (.slice sa h J)=some O) (hv:VR φ (.slice sa h J) I):
  ∃xs',VRs φ (O.take (min h dn*size)) xs'/\∀u,Cls base w0 φ H.bs w u->∀z D ty,(Builtin.copy_ ts.toArray ty #[.slice z dn D,I]).run P u=
   ((match z with|some a=>(storeCells a xs').run P u|none=> .ok () u).andThen fun _ w2=> .ok (goInt (min h dn:Nat)) w2):=by
 obtain⟨t,ts,rfl⟩:∃t r,ts=t::r:=by cases ts with
  |nil=>simp at E
  |cons t r=>exact⟨t,r,rfl⟩
 have hu:=Z0 (by simpa using E);obtain⟨a',c',l',rfl,h1,W,X⟩:=V9 (P:=P) hW hx hv;refine⟨l'.take (min h dn*size),W.take _,fun u hc z D ty=>?_⟩;have U:(t::ts).toArray[0]?=some t:=sM;have hf:=X u hc (min h dn) (Nat.min_le_left _ _);have y:Nat.min h dn=min h dn:=rfl;simp only[Builtin.copy_];simp only[U,List.getElem?_toArray,List.getElem?_cons_zero,List.getElem?_cons_succ,Sem.run_bind,run_underlying hu,Result.andThen_ok,C1 hs,Builtin.lenOf,Sem.run_pure,y,hf];cases z with
 |none=>simp only[Sem.run_pure,Result.andThen_ok]
 |some a=>simp only[Sem.run_bind,Sem.run_pure]
theorem AP{H:d8}{ts:List TypeId}{d s y O v:Value}(U:WR base w0 φ H.bs w)(h:kI P H ts d s=some (v,none))(X:VR φ d y)(hs:VR φ s O)(ty:TypeId):
  iW P base w0 φ H.bs w (Builtin.copy_ ts.toArray ty #[y,O]) v:=by
 unfold kI at h;split at h
 .cases h
 rename_i e he;split at h
 rotate_left
 .cases h
 rename_i size da dn dc D;split at h
 .cases h
 split at h
 rotate_left
 .cases h
 rename_i sa sn sc;split at h
 rotate_left
 .cases h
 rename_i ys I;split at h
 .rename_i J;cases h;obtain⟨xs',hv,u⟩:=tW (P:=P) U he D (dn:=dn) I hs;have E:xs'=[]:=by have:=hv.1;rw[J]at this;simp at this;exact List.length_eq_zero_iff.1 this.symm
  subst E;have z:∃a c,y= .slice a dn c:=by cases X<;>exact⟨_,_,rfl⟩
  obtain⟨a,c,rfl⟩:=z;refine⟨goInt 0,VR.na (by rfl),fun w' W=>?_⟩;rw[u w' W a c ty,J];cases a<;>simp [storeCells]
 .split at h
  .split at h
   .split at h<;>simp at h
   .cases h
  .cases h
theorem AQ{H H':d8}{ts:List TypeId}{d s d' s' v:Value}(I:WR base w0 φ H.bs w)(h:kI P H ts d s=some (v,some H'))(hd:VR φ d d')(hs:VR φ s s')(ty:TypeId):
  bK P base w0 φ H.bs H'.low H'.bs w (Builtin.copy_ ts.toArray ty #[d',s']) v:=by
 unfold kI at h;split at h
 .cases h
 rename_i e he;split at h
 rotate_left
 .cases h
 rename_i size da dn dc b3;split at h
 .cases h
 split at h
 rotate_left
 .cases h
 rename_i sa sn sc;split at h
 rotate_left
 .cases h
 rename_i ys a1;split at h
 .simp at h
 rename_i h0;split at h
 rotate_left
 .cases h
 rename_i b o;split at h
 rotate_left
 .cases h
 rename_i cs sz hg;split at h
 rotate_left
 .cases h
 rename_i b1;simp only[Option.some.injEq,Prod.mk.injEq]at h;obtain⟨rfl,rfl⟩:=h;obtain⟨xs',hv,a5⟩:=tW (P:=P) I he b3 (dn:=dn) a1 hs;have X:(ys.take (min sn dn*size)).length=min sn dn*size:=by
  have:=gD a1;rw[List.length_take,this];exact Nat.min_eq_left (Nat.mul_le_mul_right _ (Nat.min_le_left _ _))
 have a8:∃l c,φ[b]?=some l/\d'= .slice (some ⟨l.blk,l.off+o,none⟩) dn c:=by
  cases hd with
  |slice0=>exfalso;omega
  |exact h=>exact⟨_,_,h,rfl⟩
  |slice h=>exact⟨_,_,h,rfl⟩
 obtain⟨l,c,hl,rfl⟩:=a8;obtain⟨l',a4,a7⟩:=I.loc hg;rw[hl]at a4;cases a4;obtain⟨g0,J,h1,h2,h3⟩:=a7;obtain⟨hb,a2,u,tt,fz,hh,a6,a3⟩:=h3 rfl;have D:=gE I a1;have U:∀v∈xs',v.oneCell'=true:=by
  intro v b5;obtain⟨i,hi⟩:=List.getElem?_of_mem b5;obtain⟨x,hx⟩:∃x,(ys.take (min sn dn*size))[i]?=some x:=by
   have a9:i<(ys.take (min sn dn*size)).length:=by rw[hv.1];exact(gS hi).1
   exact⟨_,List.getElem?_eq_getElem a9⟩
  have ho:=D x (List.mem_of_mem_take (mG hx));rw[(hv.2 i x v hx hi).oneCell ho];exact ho
 have b6:xs'.length=min sn dn*size:=by rw[<-hv.1];exact X
 have b2:=aJ (P:=P) l.blk (l.off+o) tt fz xs' 0 u w hh oM (fun p hp=>a3 p oM) U;have O:=(gA hh).1;refine⟨goInt (min sn dn:Nat),E5 w l.blk (.cells (splice u.toList (l.off+o+0) xs').toArray tt fz),φ,?_,Ext.refl φ,VR.na (by rfl),I.put (l:=l) hg hl rfl (bu w l.blk _) (R7 I.below hb) ?_,Fr.of_put I hg hl rfl (Nat.min_le_right _ _)⟩
 .rw[a5 w I.cls _ c ty];simp only[b2,Result.andThen_ok]
 .refine⟨g0,fun v b4=>(fa _ _ _ v b4).elim (J v) (fun h=>D v (List.mem_of_mem_take h)),fun i y hy=>?_,(by intro hf;cases hf),fun _=>⟨hb,by rw[E3];exact a2,_,tt,fz,F9 w _ _ O,by simp [E3];exact a6,fun i hi=>?_⟩⟩
  .rw[Y9 _ _ _ _ (by rw[X];exact b1)]at hy;have E:∀j,(E5 w l.blk (.cells (splice u.toList (l.off+o+0) xs').toArray tt fz)).cell? ⟨l.blk,j,none⟩=(splice u.toList (l.off+o) xs')[j]?:=by
    intro j;unfold World.cell?;simp [F9 w _ _ O]
   rw[E,Y9 _ _ _ _ (by have:u.toList.length=u.size:=sM;omega)];rw[X]at hy;split at hy
   .rename_i b0;obtain⟨z,hz,W⟩:=hv.get hy;refine⟨z,?_,W⟩;rw[if_pos oM,show l.off+i-(l.off+o)=i-o from oM];exact hz
   .rename_i b0;obtain⟨z,hz,W⟩:=h1 i y hy;refine⟨z,?_,W⟩;rw[if_neg oM];unfold World.cell? at hz
    simpa [hh] using hz
  .have:=a3 i hi;unfold World.frozen? at this ⊢;simp only[hh]at this;simp only[F9 w _ _ O];exact this
theorem AM{H:d8}{D y:TypeId}{x x' v:Value}(hW:WR base w0 φ H.bs w)(h:Z4 P H D y x=some (v,none))(W:VR φ x x'):iW P base w0 φ H.bs w (convert D y x') v:=by
 unfold Z4 at h;split at h
 .rename_i d k k0 n hs u;cases h;cases W;refine⟨_,.int _ _,fun I _=>?_⟩;simp only[convert,Sem.run_bind,run_underlying hs,run_underlying u,Result.andThen_ok];cases d<;>simp [Conv.intToInt]
 .rename_i d s hs u;cases h;cases W;refine⟨_,.string _,fun I _=>?_⟩;simp only[convert,Sem.run_bind,run_underlying hs,run_underlying u,Result.andThen_ok];cases d<;>simp
 .rename_i e a n c hs u;split at h
  rotate_left
  .cases h
  rename_i he;split at h
  rotate_left
  .cases h
  rename_i l X;cases h;simp only[Option.bind_eq_some_iff]at X;obtain⟨cs,J,E⟩:=X;obtain⟨a',c',l',rfl,h1,h2,h3⟩:=V9 (P:=P) hW J W;have:=uS E h2;subst this;refine⟨_,.string _,fun I hc=>?_⟩;have z:=h3 I hc n lR;rw[List.take_of_length_le oM]at z;simp only[convert,Sem.run_bind,run_underlying hs,run_underlying u,Result.andThen_ok,run_underlying he,Conv.bytesToString];cases a' with
  |none=>
   simp only[Builtin.firstCells,Sem.run_pure,Result.ok.injEq,and_true]at z;have U:l'=[]:=by have:=congrArg Array.toList z;simpa using this.symm
   subst U;simp at E;subst E;simp only[Sem.run_pure];rfl
  |some a'=>
   simp only[Builtin.firstCells,Nat.mul_one]at z;simp only[Sem.run_bind,z,Result.andThen_ok];rw[<-Array.forIn_toList];have:=wq (P:=P) l' ByteArray.empty l I E;simp only[List.toList_toArray]at this ⊢;refine(congrArg (fun r=>Result.andThen r _) this).trans ?_;simp only[Result.andThen_ok,Sem.run_pure];have O:ByteArray.empty.data= #[]:=rfl;rw[O,Array.empty_append]
 .rename_i d e s hs u;split at h
  .cases h
  .cases h
  .cases h
 .cases h
theorem ux(w:World)(g n:Nat)(cs:Array Value)(t:TypeId)(u:w.heap[g]?=some (.cells cs t (0,0))):(w.freeze ⟨g,n,none⟩ 1)=E5 w g (.cells cs t (n,n+1)):=by
 unfold World.freeze E5;simp only[Nat.one_ne_zero,if_false]
 congr 1
 apply Array.ext_getElem?;intro i;rw[Array.getElem?_modify,Array.getElem?_setIfInBounds];by_cases y:g=i
 .subst y;have h:=(gA u).1;simp only[if_true,u,Option.map_some,h,beq_self_eq_true]
 .simp [y]
theorem oT{H:d8}(D:WR base w0 φ H.bs w)(e:TypeId)(s:ByteArray)(a5:Nat):
  bK P base w0 φ H.bs a5 (H.push (.cells (s.data.toList.map S0) true 1)).bs w (Conv.stringToBytes e s) (.slice (some ⟨H.next,0,none⟩) s.size (s.size+1)):=by
 have O:(choose (Question.appendCap s.size 0 e)).run P w= .ok (s.size+w.tape w.drawn (.appendCap s.size 0 e) % (2 ^ 63-s.size)) w.drew:=by
  rw[run_choose,if_neg (by simp [Question.forced])];rfl
 generalize hk:w.tape w.drawn (.appendCap s.size 0 e) % (2 ^ 63-s.size)=k at O;have U:(s.data.toList.map S0).length=s.size:=sM;have hv:VRs φ (s.data.toList.map S0) (s.data.toList.map S0):=VRs.map _ _ _ (fun b _=> .int _ _);have W:∀x∈s.data.toList.map S0,x.oneCell'=true:=fun x hx=>by obtain⟨b,_,rfl⟩:=List.mem_map.1 hx;rfl
 have z:∀j,j<w.heap.size->(w.drew.alloc (.cells (s.data.toList.map S0++List.replicate k (Value.int .u8 0)).toArray e)).heap[j]?=w.heap[j]?:=fun j E=>Below.heap_alloc _ _ _ E;have u:(w.drew.alloc (.cells (s.data.toList.map S0++List.replicate k (Value.int .u8 0)).toArray e)).heap[w.heap.size]?=some (.cells (s.data.toList.map S0++List.replicate k (Value.int .u8 0)).toArray e (0,0)):=heap_alloc_new w.drew _;have X:(Conv.stringToBytes e s).run P w= .ok (.slice (some ⟨w.heap.size,0,none⟩) s.size (s.size+k))
   (E5 (w.drew.alloc (.cells (s.data.toList.map S0++List.replicate k (Value.int .u8 0)).toArray e)) w.heap.size (.cells (s.data.toList.map S0++List.replicate k (Value.int .u8 0)).toArray e (s.size+k,s.size+k+1))):=by
  have I:Array.map (fun b=>Value.int IntKind.u8 ↑b.toNat) s.data++Array.replicate (s.size+k-s.size) (Value.int IntKind.u8 0)=(s.data.toList.map S0++List.replicate k (Value.int .u8 0)).toArray:=by
   apply Array.toList_inj.1;simp only[Array.toList_append,Array.toList_map,Array.toList_replicate];rw[show s.size+k-s.size=k from oM];rfl
  have a3:(w.drew.alloc (.cells (s.data.toList.map S0++List.replicate k (Value.int .u8 0)).toArray e)).shape? w.heap.size=some (e,s.size+k):=by
   unfold World.shape?;rw[u];simp
  simp only[Conv.stringToBytes,Sem.run_bind,O,Result.andThen_ok,newRow,newObj,Sem.run,Sem.run_pure,markStringish,run_shape,I];have e1:w.drew.heap.size=w.heap.size:=rfl;simp only[e1,World.alloc_eq,a3,run_freeze,ux _ _ _ _ _ u,Result.andThen_ok]
 have J:But w (E5 (w.drew.alloc (.cells (s.data.toList.map S0++List.replicate k (Value.int .u8 0)).toArray e)) w.heap.size (.cells (s.data.toList.map S0++List.replicate k (Value.int .u8 0)).toArray e (s.size+k,s.size+k+1))) none:=
  ⟨by simp [E5],fun j E _=>by rw[aG _ _ _ _ oM];exact z j E⟩
 refine⟨_,_,φ++[⟨w.heap.size,0,s.size+k,1⟩],X,Ext.snoc _ _,?_,D.push J ?_ (fun _=>lR) ?_,Fr.of_old D fun j o E=>?_⟩
 .refine VR.slice (l:=⟨w.heap.size,0,s.size+k,1⟩) (o:=0) (Q2 D) oM sM
 .exact R7 ((D.below.drew).alloc D.size _) (dV D.size)
 .have h:=F9 (w.drew.alloc (.cells (s.data.toList.map S0++List.replicate k (Value.int .u8 0)).toArray e)) w.heap.size (.cells (s.data.toList.map S0++List.replicate k (Value.int .u8 0)).toArray e (s.size+k,s.size+k+1)) sM;refine⟨rfl,W,fun i x hi=>?_,(by intro hf;cases hf),fun _=>⟨dV D.size,by rw[U];show s.size<=s.size+k;omega,_,e,_,h,by simp,fun i hi=>?_⟩⟩
  .obtain⟨y,hy,a4⟩:=hv.get hi;refine⟨y,?_,a4.mono (Ext.snoc _ _)⟩;unfold World.cell?;simp only[h,Option.isSome_none,bF,Nat.zero_add];have a2:i<(s.data.toList.map S0).length:=(gS hy).1;rw[List.getElem?_toArray,List.getElem?_append_left a2];exact hy
  .unfold World.frozen?;simp only[h];have:i<0+(s.size+k):=hi;simp only[Bool.and_eq_false_iff,decide_eq_false_iff_not]
   left;omega
 .have a1:=(gA E).1;rw[aG _ _ _ _ oM,z j a1];exact E
theorem pI(s:ByteArray):∀(b i:Nat)(u:Array Value),(∀x∈u,∃n,x= .int .i32 n)->∀x∈Conv.runesFrom s b i u,∃n,x= .int .i32 n:=by
 intro b;induction b with
 |zero=>intro i u h;exact h
 |succ b z=>
  intro i u h;unfold Conv.runesFrom;split
  .refine z _ _ fun x y=>?_;rcases Array.mem_push.1 y with y|rfl
   .exact h x y
   .exact⟨_,rfl⟩
  .exact h
theorem oU{H:d8}(I:WR base w0 φ H.bs w)(e:TypeId)(s:ByteArray)(E:Nat):
  bK P base w0 φ H.bs E (H.push (.cells (Conv.runesFrom s s.size 0 #[]).toList true 1)).bs w (Conv.stringToRunes e s) (.slice (some ⟨H.next,0,none⟩) (Conv.runesFrom s s.size 0 #[]).size ((Conv.runesFrom s s.size 0 #[]).size+1)):=by
 have h:=pI s s.size 0 #[] (fun x D=>by simp at D);unfold Conv.stringToRunes;generalize Conv.runesFrom s s.size 0 #[]=R at h ⊢;have z:(choose (Question.appendCap R.size 0 e)).run P w= .ok (R.size+w.tape w.drawn (.appendCap R.size 0 e) % (2 ^ 63-R.size)) w.drew:=by
  rw[run_choose,if_neg (by simp [Question.forced])];rfl
 generalize hk:w.tape w.drawn (.appendCap R.size 0 e) % (2 ^ 63-R.size)=k at z;have J:VRs φ R.toList R.toList:=⟨rfl,fun i x y p q=>by
  rw[p]at q;cases q;obtain⟨n,rfl⟩:=h x (by simpa using mG p);exact .int _ _⟩
 refine cF I (w1:=w.drew) (xs:=R.toList) (rest:=List.replicate k (Value.int .i32 0)) (e:=e) rfl rfl rfl rfl J (fun x D=>by obtain⟨n,rfl⟩:=h x (by simpa using D);rfl) (v':= .slice (some ⟨w.heap.size,0,none⟩) R.size (R.size+k)) ?_ ?_
 .have u:R++Array.replicate (R.size+k-R.size) (Value.int IntKind.i32 0)=(R.toList++List.replicate k (Value.int .i32 0)).toArray:=by
   apply Array.toList_inj.1;simp
  simp only[Sem.run_bind,z,Result.andThen_ok,newRow,newObj,Sem.run,Sem.run_pure,u];rfl
 .exact VR.slice (l:=⟨w.heap.size,0,_,1⟩) (o:=0) (Q2 I) oM sM
theorem AO{H H':d8}{y u:TypeId}{x W v:Value}(O:WR base w0 φ H.bs w)(h:Z4 P H y u x=some (v,some H'))(hx:VR φ x W):bK P base w0 φ H.bs H'.low H'.bs w (convert y u W) v:=by
 unfold Z4 at h;split at h
 .cases h
 .cases h
 .split at h
  .split at h<;>cases h
  .cases h
 .rename_i d e s hs U;cases hx;have I:P.underlying e=some (.int .u8)->(convert y u (.string s)).run P w=(Conv.stringToBytes e s).run P w:=by
   intro E;simp only[convert,Sem.run_bind,run_underlying hs,run_underlying U,Result.andThen_ok];cases d<;>simp only[Sem.run_bind,run_underlying E,Result.andThen_ok]
  have z:P.underlying e=some (.int .i32)->(convert y u (.string s)).run P w=(Conv.stringToRunes e s).run P w:=by
   intro E;simp only[convert,Sem.run_bind,run_underlying hs,run_underlying U,Result.andThen_ok];cases d<;>simp only[Sem.run_bind,run_underlying E,Result.andThen_ok]
  have D:∀{q:Sem Value}{J:List Blk}{v},(convert y u (.string s)).run P w=q.run P w->bK P base w0 φ H.bs H'.low J w q v->bK P base w0 φ H.bs H'.low J w (convert y u (.string s)) v:=by
   intro q J v hq ⟨v',w',φ',X,h2⟩;exact⟨v',w',φ',hq.trans X,h2⟩
  split at h
  .rename_i E;simp only[Option.some.injEq,Prod.mk.injEq]at h;obtain⟨rfl,rfl⟩:=h;exact D (I E) (oT O e s _)
  .rename_i E;simp only[Option.some.injEq,Prod.mk.injEq]at h;obtain⟨rfl,rfl⟩:=h;exact D (z E) (oU O e s _)
  .cases h
 .cases h
end
structure ER(φ:List Loc)(nt:Nat)(e:Env)(a:Act):Prop where
 size:a.tmps.size=nt
 val:∀t,VR φ (e.get t) (a.tmps.getD t undef)
section
variable{P:Program}{base:Bs}{w0:World}{φ:List Loc}{S:List Blk}{w:World}{nt:Nat}{e:Env}{a:Act}
theorem ER.mono{u:List Loc}(y:Ext φ u)(h:ER φ nt e a):ER u nt e a:=⟨h.size,fun t=>(h.val t).mono y⟩
theorem ER.op(h:ER φ nt e a){x:Operand}(u:C5 x=true):VR φ (opv e x) (a.eval x):=BX ⟨h.size,h.val⟩ rfl u
theorem ER.put(h:ER φ nt e a){d:Option Nat}(y:fo nt d=true){v v':Value}(z:VR φ v v'):ER φ nt (I3 e d v) (a.put d v'):=by
 cases d with
 |none=>exact h
 |some d=>
  simp only[fo,decide_eq_true_eq]at y;refine⟨by simp [Act.put,h.size],fun t=>?_⟩;simp only[Act.put,I3,Env.get];by_cases u:d=t
  .subst u;rw[if_pos rfl];have:d<a.tmps.size:=by rw[h.size];exact y
   simp only[Array.getD_eq_getD_getElem?,Array.getElem?_setIfInBounds,if_true,this,Option.getD_some];exact z
  .rw[if_neg u];have:=h.val t;simp only[Array.getD_eq_getD_getElem?,Array.getElem?_setIfInBounds,if_neg u]at this ⊢;exact this
theorem ER.wanted(h:ER φ nt e a)(ops:Array Oper)(o:Oper)(W:∀(j:Nat)(E:Oper)(d:Nat),ops[j]?=some E->E.dst=some d->d<nt) (D:X4 ops e o=false):E0 ops e o=Region.wanted o (yielded ops a.tmps):=by
 unfold X4 at D;unfold E0 Region.wanted;cases X:o.guard with
 |none=>rfl
 |some g=>
  obtain⟨j,b⟩:=g;rw[X]at D;simp only[yielded];cases U:ops[j]? with
  |none=>rfl
  |some E=>
   simp only[U,Option.bind_some]at D;cases u:E.dst with
   |none=>simp [u]
   |some d=>
    simp only[u]at D;simp only[u,Option.bind_some];have J:d<a.tmps.size:=by rw[h.size];exact W j E d U u
    have O:=h.val d;have I:a.tmps[d]?=some (a.tmps.getD d undef):=by simp [J]
    rw[I];generalize a.tmps.getD d undef=z at O;generalize e.get d=y at O D;cases O<;>first|rfl|cases D
theorem ER.args(h:ER φ nt e a){xs:Array Operand}(y:xs.toList.all C5=true):VRs φ (xs.toList.map (opv e)) (xs.toList.map a.eval):=
 VRs.map _ _ _ fun x u=>h.op (List.all_eq_true.1 y x u)
theorem ER.parts(h:ER φ nt e a){xs:Array (Nat×Operand)}(E:(xs.toList.map (·.2)).all C5=true):
  iY φ (xs.toList.map fun(i,x)=>(i,opv e x)) (xs.toList.map fun(i,x)=>(i,a.eval x)):=by
 refine⟨by simp,fun i x y p q=>?_⟩;simp only[List.getElem?_map,Option.map_eq_some_iff]at p q;obtain⟨⟨j,z⟩,D,rfl⟩:=p;obtain⟨⟨I,J⟩,u,rfl⟩:=q;rw[D]at u;cases u;exact⟨rfl,h.op (List.all_eq_true.1 E z (List.mem_map.2 ⟨_,mG D,rfl⟩))⟩
theorem ER.opt(h:ER φ nt e a){x:Option Operand}(u:x.toList.all C5=true):(∀v v',x.map (opv e)=some v->x.map a.eval=some v'->VR φ v v')/\(x.map (opv e)).isSome=(x.map a.eval).isSome:=by
 cases x with
 |none=>exact⟨fun v v' p=>(by cases p),rfl⟩
 |some x=>exact⟨fun v v' p q=>(by cases p;cases q;exact h.op (by simpa using u)),rfl⟩
theorem D9{x:Option Value}{v:Value}{r:Option d8}(h:keep x=some (v,r)):x=some v/\r=none:=by
 unfold keep at h;simp only[Option.map_eq_some_iff,Prod.mk.injEq]at h;obtain⟨y,rfl,rfl,rfl⟩:=h;exact⟨rfl,rfl⟩
theorem C3{x:Option (Value×d8)}{v:Value}{r:Option d8}(h:turn x=some (v,r)):∃H',x=some (v,H')/\r=some H':=by
 unfold turn at h;simp only[Option.map_eq_some_iff,Prod.mk.injEq]at h;obtain⟨⟨y,H'⟩,rfl,rfl,rfl⟩:=h;exact⟨H',rfl,rfl⟩
def P2(P:Program)(base:Bs)(w0:World)(φ:List Loc)(S:List Blk)(w:World)(s:Sem Next)(v:Value):Prop:=
 ∃v',VR φ v v'/\∀w',Cls base w0 φ S w w'->s.run P w'= .ok (.value v') w'
theorem P2.of{s:Sem Value}{v:Value}(h:iW P base w0 φ S w s v):P2 P base w0 φ S w (do pure (.value (<-s))) v:=by
 obtain⟨v',u,y⟩:=h;exact⟨v',u,fun D z=>by simp only[Sem.run_bind,y D z,Result.andThen_ok,Sem.run_pure]⟩
theorem P2.all{s:Sem Value}{v:Value}(h:∃v',VR φ v v'/\∀u,s.run P u= .ok v' u):P2 P base w0 φ S w (do pure (.value (<-s))) v:=
 let⟨v',h1,h2⟩:=h;P2.of ⟨v',h1,fun u _=>h2 u⟩
theorem rr{b:Builtin}{ts:Array TypeId}{ty:TypeId}{cs:Array Bool}{H:d8}{args u:LV}{v:Value}(U:WR base w0 φ H.bs w)(h:D7 P b ts.toList args H=some (v,none))(I:VRs φ args u):
  P2 P base w0 φ H.bs w (builtin b ts ty cs u.toArray) v:=by
 unfold D7 at h;split at h
 .rename_i x;simp only[Option.map_eq_some_iff,Prod.mk.injEq]at h;obtain⟨v,h,rfl,_⟩:=h;obtain⟨y,X,rfl,D,E⟩:=I.of_cons;rw[E.of_nil];have:=BC U h D ty;simp only[Array.toArray_toList]at this;exact P2.of this
 .rename_i s x;obtain⟨y,X,rfl,D,E⟩:=I.of_cons;obtain⟨z,zs,rfl,J,O⟩:=E.of_cons;rw[O.of_nil];have:=to U h D J ty;simp only[Array.toArray_toList]at this;exact P2.of this
 .rename_i d s;obtain⟨y,X,rfl,D,E⟩:=I.of_cons;obtain⟨z,zs,rfl,J,O⟩:=E.of_cons;rw[O.of_nil];have:=AP U h D J ty;simp only[Array.toArray_toList]at this;exact P2.of this
 .simp only[Option.map_eq_some_iff,Prod.mk.injEq]at h;obtain⟨v,h,rfl,_⟩:=h;obtain⟨y,rest,rfl,D,E⟩:=jv h _ I;refine P2.all ⟨v,D,fun W=>?_⟩;have:=E W
  simpa [Builtin.max_] using this
 .simp only[Option.map_eq_some_iff,Prod.mk.injEq]at h;obtain⟨v,h,rfl,_⟩:=h;obtain⟨y,rest,rfl,D,E⟩:=jv h _ I;refine P2.all ⟨v,D,fun W=>?_⟩;have:=E W
  simpa [Builtin.min_] using this
 .cases h
theorem gT{C:A8}{o:Oper}{H:d8}{v:Value}(X:WR base w0 φ H.bs w)(z:ER φ nt e a)(u:o.op.operands.toList.all C5=true)(hc:isCall o.op=false)(h:aop P C o.op e H=some (v,none)):
  P2 P base w0 φ H.bs w (execOp a.eval o) v:=by
 unfold aop at h;unfold execOp;split at h<;>rename_i W<;>simp only[W]
 all_goals simp only[W,Op.operands,List.all_cons,List.all_nil,Bool.and_true,Bool.and_eq_true]at u
 case h_1 x=>
  obtain⟨h,_⟩:=D9 h;cases h;exact⟨_,z.op u,fun U _=>rfl⟩
 case h_2 x=>
  obtain⟨h,_⟩:=D9 h;cases h;exact⟨_,z.op u,fun U _=>rfl⟩
 case h_3 c x y=>
  have hc:=z.op u.1;split at h
  .rename_i t J;rw[J]at hc;obtain⟨h,_⟩:=D9 h;cases h;generalize hcv:a.eval c=cv at hc;cases hc;refine⟨if t then a.eval x else a.eval y,by cases t;exact z.op u.2.2;exact z.op u.2.1,fun U _=>?_⟩;simp only[asBool,Sem.run_bind,Sem.run_pure,Result.andThen_ok]
  .cases h
 case h_4=>obtain⟨_,_,h⟩:=C3 h;cases h
 case h_5=>
  split at h
  .obtain⟨_,_,h⟩:=C3 h;cases h
  .cases h
 case h_6 t I=>
  obtain⟨h,_⟩:=D9 h;have hp:=z.parts (xs:=I) (by simpa [List.all_map] using u);have:=tM h hp;have e1:(I.map fun(i,x)=>(i,a.eval x))=(I.toList.map fun(i,x)=>(i,a.eval x)).toArray:=by apply Array.toList_inj.1;simp
  rw[e1];exact P2.all this
 case h_7=>obtain⟨_,_,h⟩:=C3 h;cases h
 case h_8 t x=>
  obtain⟨h,_⟩:=D9 h;exact P2.of (uN X h (z.op u))
 case h_9=>obtain⟨_,_,h⟩:=C3 h;cases h
 case h_10 x=>
  have O:=z.op u;split at h
  .rename_i ad J;rw[J]at O;obtain⟨h,_⟩:=D9 h;cases h;generalize a.eval x=xv at O;cases O with
   |ptr hl=>exact⟨_,.ptr hl,fun U _=>rfl⟩
  .rename_i g f c J;rw[J]at O;obtain⟨h,_⟩:=D9 h;cases h;generalize a.eval x=xv at O;have a5:=O;cases O with
   |func=>exact⟨_,a5,fun U _=>rfl⟩
  .cases h
 case h_11 op t x y yt=>
  obtain⟨h,_⟩:=D9 h;exact P2.all (Av h (z.op u.1) (z.op u.2) x y)
 case h_12 op t x=>
  obtain⟨h,_⟩:=D9 h;exact P2.all (Gb h (z.op u))
 case h_13 s d x=>exact P2.of (AM X h (z.op u))
 case h_14 t x=>
  split at h
  .rename_i a4;obtain⟨h,_⟩:=D9 h;cases h;exact P2.all ⟨_,.iface t (z.op u),fun U=>run_makeInterface U t _ a4⟩
  .cases h
 case h_15 fn first E=>
  split at h
  .rename_i g;obtain⟨h,_⟩:=D9 h;cases h;have D:first.toList.all C5=true/\E.toList.all C5=true:=by
    simpa [List.all_append] using u
   have h1:=z.args D.1;have h2:=z.args D.2;refine P2.all ⟨.func (.func g) (first.map a.eval) (E.map a.eval),.func g ?_ ?_ ?_ ?_,fun U=>rfl⟩
   .simp
   .simp only[Array.toList_map];exact h1.2
   .simp
   .simp only[Array.toList_map];exact h2.2
  .cases h
 case h_16=>obtain⟨_,_,h⟩:=C3 h;cases h
 case h_17=>obtain⟨_,_,h⟩:=C3 h;cases h
 case h_18 t x lo hi mx=>
  obtain⟨h,_⟩:=D9 h;have D:C5 x=true/\lo.toList.all C5=true/\hi.toList.all C5=true/\mx.toList.all C5=true:=by
   simp only[Array.toList_append,List.all_append,Bool.and_eq_true,Option.toList_toArray,List.all_cons,List.all_nil,Bool.and_true]at u
   simpa [and_assoc] using u
  exact P2.all (lk X h (z.op D.1) (z.opt D.2.1) (z.opt D.2.2.1) (z.opt D.2.2.2))
 case h_19 s x f=>
  obtain⟨h,_⟩:=D9 h;exact P2.all (lF h (z.op u))
 case h_20 s x f=>
  obtain⟨h,_⟩:=D9 h;exact P2.all (um h (z.op u))
 case h_21 t x ix=>
  obtain⟨h,_⟩:=D9 h;exact P2.all (lI h (z.op u.1) (z.op u.2))
 case h_22 t x ix=>
  obtain⟨h,_⟩:=D9 h;exact P2.all (uD h (z.op u.1) (z.op u.2))
 case h_23 t m k ok=>
  obtain⟨h,_⟩:=D9 h;exact P2.of (sj X h (z.op u.1) (z.op u.2))
 case h_24=>obtain⟨_,_,h⟩:=C3 h;cases h
 case h_25=>
  split at h
  .obtain⟨_,_,h⟩:=C3 h;cases h
  .cases h
 case h_26 it=>exact P2.of (BQ X h (z.op u) o.type)
 case h_27 x i=>
  have O:=z.op u;split at h
  .rename_i vs J;rw[J]at O;split at h
   rotate_left
   .cases h
   rename_i a1;obtain⟨h,_⟩:=D9 h;generalize a.eval x=xv at O;cases O with
   |lost v=>exact absurd a1 (by decide)
   |tuple e1 e2=>
    rename_i a6;obtain⟨y,hy,hv⟩:=VRs.get ⟨e1,e2⟩ h;refine P2.all ⟨y,hv,fun U=>?_⟩;have:a6[i]?=some y:=by rw[<-Array.getElem?_toList];exact hy
    simp only[Instr.extract,this,Sem.run_pure]
  .cases h
 case h_28 c=>
  unfold fI at h;split at h
  .rename_i b J;have D:c.args.toList.all C5=true:=by
    simp only[Call.operands,J,Array.toList_append,List.all_append,Bool.and_eq_true]at u;exact u.2
   have:=rr (ty:=o.type) (cs:=c.args.map fun| .const _=>true|_=>false) X h (z.args D);have e1:(c.args.toList.map a.eval).toArray=c.args.map a.eval:=by apply Array.toList_inj.1;simp
   rw[e1]at this;obtain⟨v',h1,h2⟩:=this;refine⟨v',h1,fun U a3=>?_⟩;have a2:=h2 U a3;simp only[resolve,J,Sem.run_bind,Sem.run_pure,Result.andThen_ok,invoke];exact a2
  .rename_i f J;rw[W]at hc;obtain⟨a8,as,a7⟩:=c;simp only at J;subst J;cases hc
  .cases h
 case h_29=>cases h
def S8(P:Program)(base:Bs)(w0:World)(φ:List Loc)(S:List Blk)(low:Nat)(S':List Blk)(w:World)(s:Sem Next)(v:Value):Prop:=
 ∃v' w' φ',(s.run P w= .ok (.value v') w'\/(s.run P w= .ok .skip w'/\v'=undef))/\Ext φ φ'/\VR φ' v v'/\WR base w0 φ' S' w'/\Fr φ S low w w'
theorem S8.of{u:Nat}{y:List Blk}{s:Sem Value}{v:Value}(h:bK P base w0 φ S u y w s v):S8 P base w0 φ S u y w (do pure (.value (<-s))) v:=by
 obtain⟨v',E,I,z,D⟩:=h;exact⟨v',E,I,.inl (by simp only[Sem.run_bind,z,Result.andThen_ok,Sem.run_pure]),D⟩
theorem S8.skip{u:Nat}{z:List Blk}{s:Sem Unit}(h:∃y,s.run P w= .ok () y/\WR base w0 φ z y/\Fr φ S u w y):S8 P base w0 φ S u z w (do s;pure .skip) undef:=by
 obtain⟨y,D,E,I⟩:=h;exact⟨undef,y,φ,.inr ⟨by simp only[Sem.run_bind,D,Result.andThen_ok,Sem.run_pure],rfl⟩,Ext.refl φ,VR.undef' φ,E,I⟩
theorem rt{b:Builtin}{ts:Array TypeId}{ty:TypeId}{cs:Array Bool}{H H':d8}{args u:LV}{v:Value}(O:WR base w0 φ H.bs w)(h:D7 P b ts.toList args H=some (v,some H'))(U:VRs φ args u):
  S8 P base w0 φ H.bs H'.low H'.bs w (builtin b ts ty cs u.toArray) v:=by
 unfold D7 at h;split at h
 .simp only[Option.map_eq_some_iff,Prod.mk.injEq]at h;obtain⟨v,h,_,D⟩:=h;cases D
 .rename_i s x;obtain⟨y,W,rfl,E,D⟩:=U.of_cons;obtain⟨z,X,rfl,I,J⟩:=D.of_cons;rw[J.of_nil];have:=tq O h E I ty;simp only[Array.toArray_toList]at this;exact S8.of this
 .rename_i d s;obtain⟨y,W,rfl,E,D⟩:=U.of_cons;obtain⟨z,X,rfl,I,J⟩:=D.of_cons;rw[J.of_nil];have:=AQ O h E I ty;simp only[Array.toArray_toList]at this;exact S8.of this
 .simp only[Option.map_eq_some_iff,Prod.mk.injEq]at h;obtain⟨v,h,_,D⟩:=h;cases D
 .simp only[Option.map_eq_some_iff,Prod.mk.injEq]at h;obtain⟨v,h,_,D⟩:=h;cases D
 .cases h
theorem L6{x:Option Value}{v:Value}{H':d8}(h:keep x=some (v,some H')):False:=by
 have:=(D9 h).2;cases this
theorem sD{C:A8}{o:Oper}{H H':d8}{v:Value}(J:WR base w0 φ H.bs w)(I:ER φ nt e a)(u:o.op.operands.toList.all C5=true)(hc:isCall o.op=false)(h:aop P C o.op e H=some (v,some H')):
  S8 P base w0 φ H.bs H'.low H'.bs w (execOp a.eval o) v:=by
 unfold aop at h;unfold execOp;split at h<;>rename_i O<;>simp only[O]
 all_goals simp only[O,Op.operands,List.all_cons,List.all_nil,Bool.and_true,Bool.and_eq_true]at u
 all_goals try exact(L6 h).elim
 case h_3=>
  split at h
  .exact(L6 h).elim
  .cases h
 case h_4 t=>
  obtain⟨_,h,D⟩:=C3 h;cases D;simp only[Option.map_eq_some_iff,Prod.mk.injEq]at h;obtain⟨z,hz,rfl,rfl⟩:=h;exact S8.of (tg J hz _)
 case h_5 t x=>
  split at h
  .rename_i X;obtain⟨_,h,D⟩:=C3 h;cases D;simp only[Option.some.injEq,Prod.mk.injEq]at h;obtain⟨rfl,rfl⟩:=h;exact S8.of (Ax J (I.op u) X _)
  .cases h
 case h_7 t a3 E=>
  obtain⟨_,h,D⟩:=C3 h;cases D;have hp:=I.parts (xs:=E) (by simpa [List.all_map] using u);have:=jW J h hp H'.low;have D:(E.map fun(i,x)=>(i,a.eval x))=(E.toList.map fun(i,x)=>(i,a.eval x)).toArray:=by apply Array.toList_inj.1;simp
  rw[D];exact S8.of this
 case h_9 t x y=>
  obtain⟨_,h,D⟩:=C3 h;cases D;simp only[Option.map_eq_some_iff,Prod.mk.injEq]at h;obtain⟨H2,hq,rfl,rfl⟩:=h;exact S8.skip (Cx J hq (I.op u.1) (I.op u.2))
 case h_10=>
  split at h
  .exact(L6 h).elim
  .exact(L6 h).elim
  .cases h
 case h_13 s d x=>exact S8.of (AO J h (I.op u))
 case h_14=>
  split at h
  .exact(L6 h).elim
  .cases h
 case h_15=>
  split at h
  .exact(L6 h).elim
  .cases h
 case h_16 t=>
  obtain⟨_,h,D⟩:=C3 h;cases D;simp only[Option.some.injEq,Prod.mk.injEq]at h;obtain⟨rfl,rfl⟩:=h;exact S8.of (pC J t _)
 case h_17 t l c=>
  obtain⟨_,h,D⟩:=C3 h;cases D;exact S8.of (lJ J h (I.op u.1) (I.op u.2) _)
 case h_24 t m k x=>
  obtain⟨_,h,D⟩:=C3 h;cases D;simp only[Option.map_eq_some_iff,Prod.mk.injEq]at h;obtain⟨H2,hq,rfl,rfl⟩:=h;exact S8.skip (lL J hq (I.op u.1) (I.op u.2.1) (I.op u.2.2))
 case h_25 t x=>
  have hx:=I.op u;split at h
  .rename_i s hu hs;rw[hs]at hx;obtain⟨_,h,D⟩:=C3 h;cases D;simp only[Option.some.injEq,Prod.mk.injEq]at h;obtain⟨rfl,rfl⟩:=h;generalize a.eval x=xv at hx;cases hx;exact S8.of (vi J hu _)
  .cases h
 case h_26 it=>exact S8.of (BS J h (I.op u) o.type)
 case h_27=>
  split at h
  .split at h
   .exact(L6 h).elim
   .cases h
  .cases h
 case h_28 c=>
  unfold fI at h;split at h
  .rename_i b U;have W:c.args.toList.all C5=true:=by
    simp only[Call.operands,U,Array.toList_append,List.all_append,Bool.and_eq_true]at u;exact u.2
   have:=rt (ty:=o.type) (cs:=c.args.map fun| .const _=>true|_=>false) J h (I.args W);have D:(c.args.toList.map a.eval).toArray=c.args.map a.eval:=by apply Array.toList_inj.1;simp
   rw[D]at this;obtain⟨v',w',φ',h1,h2⟩:=this;refine⟨v',w',φ',?_,h2⟩;simp only[resolve,U,Sem.run_bind,Sem.run_pure,Result.andThen_ok,invoke];exact h1
  .rename_i f U;rw[O]at hc;obtain⟨a2,as,a1⟩:=c;simp only at U;subst U;cases hc
  .cases h
 case h_29=>cases h
structure Le(H H':d8):Prop where
 low:H'.low<=H.low
 len:H.bs.length<=H'.bs.length
 same:∀b,b<H'.low->b<H.bs.length->H'.bs[b]?=H.bs[b]?
theorem Le.refl(H:d8):Le H H:=⟨lR,lR,fun _ _ _=>rfl⟩
theorem Le.trans{A B C:d8}(h:Le A B)(k:Le B C):Le A C:=
 ⟨Nat.le_trans k.low h.low,Nat.le_trans h.len k.len,fun b u y=>by rw[k.same b u (Nat.lt_of_lt_of_le y h.len),h.same b (Nat.lt_of_lt_of_le u k.low) y]⟩
theorem Le.push(H:d8)(x:Blk):Le H (H.push x):=
 ⟨lR,by simp [d8.push],fun b _ h=>by simp [d8.push,List.getElem?_append_left h]⟩
theorem Le.put(H:d8)(b:Nat)(x:Blk):Le H (H.put b x):=
 ⟨Nat.min_le_left _ _,by simp [d8.put],fun c h _=>by
  have:c<min H.low b:=h;simp only[d8.put,List.getElem?_set];rw[if_neg oM]⟩
theorem Fr.trans{φ X:List Loc}{H H' u:d8}{w W z:World}(hx:Ext φ X)(hl:Le H H')(y:Le H' u)(O:φ.length=H.bs.length)(h:Fr φ H.bs H'.low w W)(k:Fr X H'.bs u.low W z):Fr φ H.bs u.low w z:=by
 intro b B l E D J U;have I:b<H.bs.length:=(gS D).1;have h2:H'.bs[b]?=some B:=by rw[hl.same b (Nat.lt_of_lt_of_le E y.low) I];exact D
 rw[k b B l E h2 J (hx _ _ U),h b B l (Nat.lt_of_lt_of_le E y.low) D J U]
theorem BB{H H':d8}{ts:List TypeId}{s x v:Value}(h:C2 P H ts s x=some (v,some H')):Le H H':=by
 unfold C2 at h
 repeat' split at h
 all_goals first|(cases h;done)|(simp at h;done)|skip
 all_goals (simp only[Option.some.injEq,Prod.mk.injEq]at h;obtain⟨_,rfl⟩:=h)
 .exact Le.push _ _
 .exact Le.push _ _
 .exact(Le.put _ _ _).trans (Le.push _ _)
theorem HM{H H':d8}{ts:List TypeId}{s x v:Value}(h:kI P H ts s x=some (v,some H')):Le H H':=by
 unfold kI at h
 repeat' split at h
 all_goals first|(cases h;done)|(simp at h;done)|skip
 all_goals (simp only[Option.some.injEq,Prod.mk.injEq]at h;obtain⟨_,rfl⟩:=h)
 exact Le.put _ _ _
theorem xI{b:Builtin}{ts:List TypeId}{args:LV}{H H':d8}{v:Value}(h:D7 P b ts args H=some (v,some H')):Le H H':=by
 unfold D7 at h;split at h
 .simp only[Option.map_eq_some_iff,Prod.mk.injEq]at h;obtain⟨v,h,_,u⟩:=h;cases u
 .exact BB h
 .exact HM h
 .simp only[Option.map_eq_some_iff,Prod.mk.injEq]at h;obtain⟨v,h,_,u⟩:=h;cases u
 .simp only[Option.map_eq_some_iff,Prod.mk.injEq]at h;obtain⟨v,h,_,u⟩:=h;cases u
 .cases h
theorem kU{C:A8}{o:Op}{H H':d8}{v:Value}(U:isCall o=false)(h:aop P C o e H=some (v,some H')):Le H H':=by
 unfold aop at h;split at h
 all_goals try exact(L6 h).elim
 case h_3=>
  split at h
  .exact(L6 h).elim
  .cases h
 case h_4 t=>
  obtain⟨_,h,u⟩:=C3 h;cases u;simp only[Option.map_eq_some_iff,Prod.mk.injEq]at h;obtain⟨z,hz,rfl,rfl⟩:=h;exact Le.push _ _
 case h_5 t x=>
  split at h
  .obtain⟨_,h,u⟩:=C3 h;cases u;simp only[Option.some.injEq,Prod.mk.injEq]at h;obtain⟨rfl,rfl⟩:=h;exact Le.push _ _
  .cases h
 case h_7 t W E=>
  obtain⟨_,h,u⟩:=C3 h;cases u;unfold Q7 at h
  repeat' split at h
  all_goals first|(cases h;done)|skip
  cases h;exact Le.push _ _
 case h_9 t x y=>
  obtain⟨_,h,u⟩:=C3 h;cases u;simp only[Option.map_eq_some_iff,Prod.mk.injEq]at h;obtain⟨H2,D,rfl,rfl⟩:=h;unfold sto at D
  repeat' split at D
  all_goals first|(cases D;done)|skip
  cases D;exact Le.put _ _ _
 case h_10=>
  split at h
  .exact(L6 h).elim
  .exact(L6 h).elim
  .cases h
 case h_13 s d x=>
  unfold Z4 at h
  repeat' split at h
  all_goals first|(cases h;done)|(simp at h;done)|skip
  all_goals (simp only[Option.some.injEq,Prod.mk.injEq]at h;obtain⟨_,rfl⟩:=h)
  .exact Le.push _ _
  .exact Le.push _ _
 case h_14=>
  split at h
  .exact(L6 h).elim
  .cases h
 case h_15=>
  split at h
  .exact(L6 h).elim
  .cases h
 case h_16 t=>
  obtain⟨_,h,u⟩:=C3 h;cases u;simp only[Option.some.injEq,Prod.mk.injEq]at h;obtain⟨rfl,rfl⟩:=h;exact Le.push _ _
 case h_17 t l c=>
  obtain⟨_,h,u⟩:=C3 h;cases u;unfold N0 at h
  repeat' split at h
  all_goals first|(cases h;done)|skip
  cases h;exact Le.push _ _
 case h_24 t m k x=>
  obtain⟨_,h,u⟩:=C3 h;cases u;simp only[Option.map_eq_some_iff,Prod.mk.injEq]at h;obtain⟨H2,D,rfl,rfl⟩:=h;unfold Y7 at D
  repeat' split at D
  all_goals first|(cases D;done)|skip
  all_goals cases D
  .exact Le.put _ _ _
  .exact Le.put _ _ _
 case h_25 t x=>
  split at h
  .obtain⟨_,h,u⟩:=C3 h;cases u;simp only[Option.some.injEq,Prod.mk.injEq]at h;obtain⟨rfl,rfl⟩:=h;exact Le.push _ _
  .cases h
 case h_26 it=>
  unfold jB at h
  repeat' split at h
  all_goals first|(cases h;done)|(simp at h;done)|skip
  simp only[Option.some.injEq,Prod.mk.injEq]at h;obtain⟨_,rfl⟩:=h;exact Le.put _ _ _
 case h_27=>
  split at h
  .split at h
   .exact(L6 h).elim
   .cases h
  .cases h
 case h_28 c=>
  unfold fI at h;split at h
  .exact xI h
  .rename_i f I;obtain⟨O,X,J⟩:=c;simp only at I;subst I;cases U
  .cases h
 case h_29=>cases h
def dv(P:Program)(g:FuncId):Prop:=∃fn,P.funcs[g]?=some fn/\(fn.name== "runtime.NumGoroutine")=false/\fn.body.isNone=false
def bP(P:Program)(base:Bs)(w0:World)(C:A8):Prop:=
 ∀g args H v r,C g args H=some (v,r)->dv P g/\(∀H',r=some H'->Le H H')/\(r=none->L9 v=true)/\
  ∀(φ:List Loc)(w:World)(args':LV),VRs φ args args'->WR base w0 φ H.bs w->
   Calls P g args'.toArray w fun en w'=>match r with
    |none=>en= .returned v/\Cls base w0 φ H.bs w w'
    |some H'=>∃v' φ',en= .returned v'/\Ext φ φ'/\VR φ' v v'/\WR base w0 φ' H'.bs w'/\Fr φ H.bs H'.low w w'
theorem jJ{g:FuncId}(h:dv P g)(args:Array Value)(w:World):(callFunc g args).run P w= .ok (.enter g args) w:=by
 obtain⟨D,u,y,z⟩:=h;simp only[callFunc,Sem.run_bind,run_program,Result.andThen_ok,u,y,z,bF,Sem.run_pure]
theorem ci{c:Call}{f:Operand}{g:FuncId}{first h:Array Value}(u:c.callee= .value f){ty:TypeId}(D:a.eval f= .func (.func g) first h)(y:dv P g){o:Oper}(z:o.op= .call c)(w:World):
  (execOp a.eval o).run P w= .ok (.enter g (first++c.args.map a.eval++h)) w:=by
 unfold execOp;simp only[z,resolve,u,D,Deferred.ofValue,Sem.run_bind,Sem.run_pure,Result.andThen_ok,invoke,jJ y]
end
section
variable{ops:Array Oper}{A:List Nat}
structure pi(ops:Array Oper)(A:List Nat):Prop where
 sel:Region.noSelect ops=true
 back:∀(i:Nat) oi,ops[i]?=some oi->∀d∈U2 oi,d<i
 anc:∀(i k:Nat) oi,ops[i]?=some oi->k<ops.size->isAnc A i k=true->∃d∈U2 oi,d=k\/isAnc A d k=true
 look:∀(i k:Nat) oi ok d,ops[i]?=some oi->ops[k]?=some ok->ok.dst=some d->d∈oi.looksAt ops->(k<i/\isAnc A i k=true)\/(i<k/\isAnc A k i=true)
 dst:∀(i k:Nat) oi ok d,ops[i]?=some oi->ops[k]?=some ok->oi.dst=some d->ok.dst=some d->i=k
 flo:∀(i k:Nat) oi ok d,ops[i]?=some oi->ops[k]?=some ok->az ok.op=true->ok.dst=some d->(A9 oi.op=true/\az oi.op=false)\/d∉oi.looksAt ops
 ord:∀(i k:Nat) oi ok,ops[i]?=some oi->ops[k]?=some ok->k<i->A9 oi.op=true->az oi.op=false->A9 ok.op=true->isAnc A i k=true
 free:∀(i:Nat) oi,ops[i]?=some oi->az oi.op=true->oi.guard=none/\∃d,oi.dst=some d
theorem Q8{i:Nat}{o:Oper}(h:ops[i]?=some o):i<ops.size:=(gA h).1
theorem Rm(h:kX ops A=true):pi ops A:=by
 simp only[kX,Bool.and_eq_true,List.all_eq_true,List.mem_range]at h;have E:∀(i:Nat) u,ops[i]?=some u->kl ops A i u=true:=fun i u y=>by
  have:=h.2 i (Q8 y);simpa only[y] using this
 have W:∀(i k:Nat) u ok,ops[i]?=some u->ops[k]?=some ok->mc ops A i k u ok=true:=fun i k u ok y z=>by
  have:=E i u y;simp only[kl,Bool.and_eq_true,List.all_eq_true,List.mem_range]at this;have:=this.1.2 k (Q8 z);simpa only[z] using this
 have I:∀(i k:Nat) u ok d,ops[i]?=some u->ops[k]?=some ok->ok.dst=some d->
   ((!(u.looksAt ops).contains d||(if k<i then isAnc A i k else if i<k then isAnc A k i else false))=true/\(k==i||u.dst !=some d)=true)/\(!az ok.op||((A9 u.op&& !az u.op)|| !(u.looksAt ops).contains d))=true:=fun i k u ok d y z D=>by
  have:=W i k u ok y z;simp only[mc,D,Bool.and_eq_true]at this;exact this.1
 refine⟨h.1,fun i u y d D=>?_,fun i k u y z ha=>?_,fun i k u ok d y z D hl=>?_,fun i k u ok d y z J O=>?_,fun i k u ok d y z S D=>?_,fun i k u ok y z U t1 X t2=>?_,fun i u y S=>?_⟩
 .have:=E i u y;simp only[kl,Bool.and_eq_true,List.all_eq_true,decide_eq_true_eq]at this;exact this.1.1.1 d D
 .have:=E i u y;simp only[kl,Bool.and_eq_true,List.all_eq_true,List.mem_range]at this;have:=this.1.1.2 k z;rw[ha]at this
  simpa using this
 .have:=(I i k u ok d y z D).1.1;have hc:(u.looksAt ops).contains d=true:=by simpa using hl
  rw[hc]at this;simp only[Bool.not_true,Bool.false_or]at this;split at this
  .exact .inl ⟨by assumption,this⟩
  .split at this
   .exact .inr ⟨by assumption,this⟩
   .cases this
 .have:=(I i k u ok d y z O).1.2;rw[J]at this;simp at this;exact this.symm
 .have:=(I i k u ok d y z D).2;rw[S]at this;simp at this;rcases this with h|h
  .exact .inl h
  .exact .inr (by simpa using h)
 .have:=W i k u ok y z;simp only[mc,Bool.and_eq_true]at this;have:=this.2;rw[t1,X,t2,decide_eq_true U]at this
  simpa using this
 .have:=E i u y;simp only[kl,Bool.and_eq_true]at this;have:=this.2;rw[S]at this;simp at this;exact⟨this.1,Option.isSome_iff_exists.1 this.2⟩
theorem pi.anc_lt(I:pi ops A):∀(i k:Nat) y,ops[i]?=some y->k<ops.size->isAnc A i k=true->k<i:=by
 intro i;induction i using Nat.strongRecOn with
 |ind i S=>
  intro k y E J h;obtain⟨d,O,z⟩:=I.anc i k y E J h;have u:=I.back i y E d O;rcases z with rfl|z
  .exact u
  .have D:d<ops.size:=oN (Q8 E);have:=S d u k _ (Array.getElem?_eq_getElem D) J z;omega
theorem pi.done(O:pi ops A){L:Nat->Prop}(W:∀(j:Nat) oj,ops[j]?=some oj->L j->∀d∈U2 oj,L d):∀(i k:Nat) z,ops[i]?=some z->k<ops.size->(∀d∈U2 z,L d)->isAnc A i k=true->L k:=by
 intro i;induction i using Nat.strongRecOn with
 |ind i X=>
  intro k z J U S h;obtain⟨d,u,D⟩:=O.anc i k z J U h;have E:=O.back i z J d u;rcases D with rfl|D
  .exact S d u
  .have I:d<ops.size:=oN (Q8 J);have y:ops[d]?=some ops[d]:=Array.getElem?_eq_getElem I;exact X d E k _ y U (W d _ y (S d u)) D
def nT(ops:Array Oper)(i:Nat):Nat:=((ops.toList.take i).filter fun o=>A9 o.op).length
theorem zF:nT ops 0=0:=rfl
theorem jy{i:Nat}{o:Oper}(h:ops[i]?=some o):nT ops (i+1)=nT ops i+if A9 o.op=true then 1 else 0:=by
 have u:ops.toList[i]?=some o:=by simpa using h
 unfold nT;rw[List.take_add_one,u,List.filter_append,List.length_append]
 congr 1
 simp only[Option.toList_some,List.filter_cons,List.filter_nil];split<;>simp
theorem HY(i:Nat):nT ops i<=nT ops (i+1):=by
 cases h:ops[i]? with
 |some o=>rw[jy h];omega
 |none=>
  have:ops.size<=i:=by simpa using h
  unfold nT;rw[List.take_of_length_le (by simpa using this),List.take_of_length_le (by simp;omega)];exact lR
theorem sC{i k:Nat}(h:i<=k):nT ops i<=nT ops k:=by
 induction k with
 |zero=>
  have:i=0:=oM;subst this;exact lR
 |succ k y=>
  by_cases u:i=k+1
  .subst u;exact lR
  .exact Nat.le_trans (y oM) (HY k)
theorem ij{i k:Nat}{o:Oper}(h:ops[i]?=some o)(y:A9 o.op=true)(z:i<k):nT ops i<nT ops k:=by
 have u:=jy h;rw[if_pos y]at u;have:=sC (ops:=ops) (show i+1<=k from oM);omega
theorem sB{i k:Nat}{u ok:Oper}(y:ops[i]?=some u)(z:ops[k]?=some ok)(D:A9 u.op=true)(E:A9 ok.op=true)(h:nT ops i=nT ops k):i=k:=by
 rcases Nat.lt_trichotomy i k with q|q|q
 .have:=ij y D q;omega
 .exact q
 .have:=ij z E q;omega
theorem JA:∀(n m:Nat),m<nT ops n->∃i o,i<n/\ops[i]?=some o/\A9 o.op=true/\nT ops i=m:=by
 intro n;induction n with
 |zero=>intro m h;rw[zF]at h;omega
 |succ n I=>
  intro m h;by_cases z:m<nT ops n
  .obtain⟨i,o,J,y⟩:=I m z;exact⟨i,o,oM,y⟩
  .cases u:ops[n]? with
   |none=>
    have D:ops.size<=n:=by simpa using u
    have:nT ops (n+1)=nT ops n:=by
     unfold nT;rw[List.take_of_length_le (by simp;omega),List.take_of_length_le (by simp;omega)]
    omega
   |some o=>
    rw[jy u]at h;split at h
    .rename_i E;exact⟨n,o,oM,u,E,oM⟩
    .omega
def isT(ops:Array Oper)(i:Nat):Bool:=match ops[i]? with|some o=>A9 o.op|none=>false
theorem uI{i:Nat}{o:Oper}(h:ops[i]?=some o):isT ops i=A9 o.op:=by simp [isT,h]
theorem jk:∀c,((List.range c).filter (isT ops)).length=nT ops c:=by
 intro c;induction c with
 |zero=>rfl
 |succ c y=>
  rw[List.range_succ,List.filter_append,List.length_append,y];cases h:ops[c]? with
  |some o=>
   rw[jy h]
   congr 1
   simp only[List.filter_cons,uI h,List.filter_nil];split<;>rfl
  |none=>
   have u:ops.size<=c:=by simpa using h
   have:nT ops (c+1)=nT ops c:=by
    unfold nT;rw[List.take_of_length_le (by simp;omega),List.take_of_length_le (by simp;omega)]
   rw[this];simp [isT,h]
theorem qU{c:Nat}{o:Oper}(h:ops[c]?=some o)(y:A9 o.op=true):(T6 ops)[nT ops c]?=some c:=by
 have key:∀n,c<n->((List.range n).filter (isT ops))[nT ops c]?=some c:=by
  intro n;induction n with
  |zero=>intro h;omega
  |succ n z=>
   intro D;rw[List.range_succ,List.filter_append];by_cases u:c<n
   .rw[List.getElem?_append_left]
    .exact z u
    .rw[jk];exact ij h y u
   .have:c=n:=oM;subst this;rw[List.getElem?_append_right (by rw[jk];exact lR),jk,Nat.sub_self];simp [uI h,y]
 exact key ops.size (Q8 h)
theorem zV{α:Type}(q:α->Bool):∀(l:List α)(j:Nat),(j<(l.takeWhile q).length->∃x,l[j]?=some x/\q x=true)/\((l.takeWhile q).length<j->j<=l.length->∃x,l[(l.takeWhile q).length]?=some x/\q x=false)
 |[],j=>⟨fun h=>by simp at h,fun h k=>by simp at h k;omega⟩
 |a::l,j=>by
  rw[List.takeWhile_cons];cases h:q a with
  |true=>
   simp only[if_true,List.length_cons];refine⟨fun z=>?_,fun z D=>?_⟩
   .cases j with
    |zero=>exact⟨a,rfl,h⟩
    |succ j=>obtain⟨x,u,y⟩:=(zV q l j).1 oM;exact⟨x,by simpa using u,y⟩
   .obtain⟨x,u,y⟩:=(zV q l (j-1)).2 oM oM;exact⟨x,by simpa using u,y⟩
  |false=>
   simp only[bF,List.length_nil];exact⟨fun z=>oM,fun z D=>⟨a,rfl,h⟩⟩
def bX(ops:Array Oper)(A:List Nat)(i:Nat):Nat×Nat:=sv A (T6 ops) i
theorem Gc{i j:Nat}(h:j<(bX ops A i).1):∃c o,ops[c]?=some o/\A9 o.op=true/\nT ops c=j/\isAnc A i c=true:=by
 obtain⟨c,D,J⟩:=(zV (fun c=>isAnc A i c) (T6 ops) j).1 h;have y:c∈T6 ops:=mG D;simp only[T6,List.mem_filter,List.mem_range]at y;obtain⟨o,z⟩:∃o,ops[c]?=some o:=⟨ops[c],Array.getElem?_eq_getElem y.1⟩
 have I:A9 o.op=true:=by have:=y.2;simpa [z] using this
 refine⟨c,o,z,I,?_,J⟩;have E:=qU z I;have O:(T6 ops).Nodup:=List.Pairwise.filter _ List.nodup_range;have u:nT ops c<(T6 ops).length:=(gS E).1;exact((List.getElem?_inj u O).1 (E.trans D.symm))
theorem MJ{i j:Nat}(h:(bX ops A i).2<j)(S:j<=nT ops ops.size):∃c o,ops[c]?=some o/\A9 o.op=true/\nT ops c<j/\isAnc A c i=true:=by
 have U:(T6 ops).length=nT ops ops.size:=jk ops.size;obtain⟨c,D,J⟩:=(zV (fun c=> !isAnc A c i) (T6 ops) j).2 h oM;have y:c∈T6 ops:=mG D;simp only[T6,List.mem_filter,List.mem_range]at y;obtain⟨o,z⟩:∃o,ops[c]?=some o:=⟨ops[c],Array.getElem?_eq_getElem y.1⟩
 have I:A9 o.op=true:=by have:=y.2;simpa [z] using this
 refine⟨c,o,z,I,?_,by simpa using J⟩;have E:=qU z I;have O:(T6 ops).Nodup:=List.Pairwise.filter _ List.nodup_range;have u:nT ops c<(T6 ops).length:=(gS E).1;have:nT ops c=(bX ops A i).2:=(List.getElem?_inj u O).1 (E.trans D.symm);omega
structure Tr(P:Program)(C:A8)(ops:Array Oper)(A:List Nat)(n:Nat)(E:Nat->Env)(V:Nat->Value)(K:Nat->d8):Prop where
 step:∀(i:Nat) o,i<n->ops[i]?=some o->E (i+1)=I3 (E i) o.dst (V i)
 nl:∀(i:Nat) o,i<n->ops[i]?=some o->X4 ops (E i) o=false
 off:∀(i:Nat) o,i<n->ops[i]?=some o->E0 ops (E i) o=false->V i=undef/\(A9 o.op=true->K (nT ops i+1)=K (nT ops i))
 turn:∀(i:Nat) o,i<n->ops[i]?=some o->E0 ops (E i) o=true->A9 o.op=true->∃r,aop P C o.op (E i) (K (nT ops i))=some (V i,r)/\K (nT ops i+1)=r.getD (K (nT ops i))
 pure:∀(i:Nat) o,i<n->ops[i]?=some o->E0 ops (E i) o=true->A9 o.op=false->rdK o.op=true->∀j,j<=nT ops n->(bX ops A i).1<=j->j<=(bX ops A i).2->aop P noC o.op (E i) (K j)=some (V i,none)
 flat:∀(i:Nat) o,i<n->ops[i]?=some o->E0 ops (E i) o=true->A9 o.op=false->rdK o.op=false->∀H2,aop P noC o.op (E i) H2=some (V i,none)
theorem tR{P:Program}:∀{y:List (Op×Env×Value×Nat)}{j:Nat}{H:d8},rz P y j H->∀o e v z,(o,e,v,z)∈y->j<=z->aop P noC o e H=some (v,none)
 |(o',e',v',hi')::r,j,H,h,o,e,v,z,u,hj=>by
  rcases List.mem_cons.1 u with u|u
  .cases u;exact h.1 hj
  .exact tR h.2 o e v z u hj
theorem tQ{P:Program}{o:Op}{e:Env}{v:Value}{lo:Nat}:∀{y:List (Nat×d8)},ry P o e v lo y->∀j K,(j,K)∈y->lo<=j->aop P noC o e K=some (v,none)
 |(j',K')::r,h,j,K,u,hj=>by
  rcases List.mem_cons.1 u with u|u
  .cases u;exact h.1 hj
  .exact tQ h.2 j K u hj
theorem wj{P:Program}{C:A8}{o:Op}{e:Env}{H H2:d8}(u:A9 o=false)(h:rdK o=false):aop P C o e H=aop P C o e H2:=by
 cases o<;>simp only[A9,rdK,Bool.true_eq_false,Bool.false_eq_true]at u h<;>rfl
theorem EU{i:Nat}{o:Oper}(h:ops[i]?=some o):(jw ops).drop i=(o,bX ops (E4 ops.toList []) i)::(jw ops).drop (i+1):=by
 have u:i<(jw ops).length:=by simp [jw];exact Q8 h
 rw[List.drop_eq_getElem_cons u]
 congr 1
 have y:ops.toList[i]?=some o:=by simpa using h
 have:(jw ops)[i]?=some (o,bX ops (E4 ops.toList []) i):=by
  simp only[jw,List.getElem?_map,List.getElem?_zipIdx,y,Option.map_some,Nat.zero_add];rfl
 exact Option.some.inj ((List.getElem?_eq_getElem u).symm.trans this)
theorem BI{P:Program}{C:A8}(hM:pi ops (E4 ops.toList [])){e':Env}{H':d8}:∀(g i:Nat)(t:Nat)(Ks:List (Nat×d8))(U:List (Op×Env×Value×Nat))(E:Nat->Env)(V:Nat->Value)(K:Nat->d8),g+i=ops.size->t=nT ops i->
  Tr P C ops (E4 ops.toList []) i E V K->(∀j,j<nT ops i->(j,K j)∈Ks)->(∀(x:Nat) o,x<i->ops[x]?=some o->E0 ops (E x) o=true->A9 o.op=false->rdK o.op=true->(o.op,E x,V x,(bX ops (E4 ops.toList []) x).2)∈U)->
  I7 P C ops t Ks U ((jw ops).drop i) (E i) (K (nT ops i))=some (e',H')->
  ∃E' V' K',Tr P C ops (E4 ops.toList []) ops.size E' V' K'/\E' 0=E 0/\K' 0=K 0/\E' ops.size=e'/\K' (nT ops ops.size)=H':=by
 intro g;induction g with
 |zero=>
  intro i t Ks U E V K hg S hT hK hO h;have:i=ops.size:=oM;subst this;rw[dN (by simp [jw])]at h;simp only[I7,Option.some.injEq,Prod.mk.injEq]at h;exact⟨E,V,K,hT,rfl,rfl,h.1,h.2⟩
 |succ g ih=>
  intro i t Ks U E V K hg S hT hK hO h;subst S;obtain⟨o,ho⟩:∃o,ops[i]?=some o:=⟨ops[i]'oM,Array.getElem?_eq_getElem oM⟩
  rw[EU ho]at h;obtain⟨d4,d3⟩:∃a b,bX ops (E4 ops.toList []) i=(a,b):=⟨_,_,rfl⟩
  have z:=jy ho;rw[show bX ops (E4 ops.toList []) i=((bX ops (E4 ops.toList []) i).1,(bX ops (E4 ops.toList []) i).2) from rfl]at h;simp only[I7]at h;split at h
  .cases h
  rename_i a8;have a8:X4 ops (E i) o=false:=by simpa using a8
  have a1:∀(v:Value)(H2:d8)(a2:List (Nat×d8))(W:List (Op×Env×Value×Nat)),
    (A9 o.op=false->H2=K (nT ops i))->
    (E0 ops (E i) o=false->v=undef/\H2=K (nT ops i))->
    (E0 ops (E i) o=true->A9 o.op=true->∃r,aop P C o.op (E i) (K (nT ops i))=some (v,r)/\H2=r.getD (K (nT ops i)))->
    (E0 ops (E i) o=true->A9 o.op=false->rdK o.op=true->∀j,j<=nT ops i->(bX ops (E4 ops.toList []) i).1<=j->aop P noC o.op (E i) (K j)=some (v,none))->
    (E0 ops (E i) o=true->A9 o.op=false->rdK o.op=false->∀H2,aop P noC o.op (E i) H2=some (v,none))->
    (A9 o.op=true->∀(x:Nat) O,x<i->ops[x]?=some O->E0 ops (E x) O=true->A9 O.op=false->rdK O.op=true->nT ops i+1<=(bX ops (E4 ops.toList []) x).2->aop P noC O.op (E x) H2=some (V x,none))->
    (∀j,j<nT ops i->(j,K j)∈a2)->(A9 o.op=true->(nT ops i,K (nT ops i))∈a2)->
    (∀q,q∈U->q∈W)->(E0 ops (E i) o=true->A9 o.op=false->rdK o.op=true->(o.op,E i,v,(bX ops (E4 ops.toList []) i).2)∈W)->
    I7 P C ops (nT ops (i+1)) a2 W ((jw ops).drop (i+1)) (I3 (E i) o.dst v) H2=some (e',H')->
    ∃E' V' K',Tr P C ops (E4 ops.toList []) ops.size E' V' K'/\E' 0=E 0/\K' 0=K 0/\E' ops.size=e'/\K' (nT ops ops.size)=H':=by
   intro v H2 a2 W c0 c3 c4 c5 c7 c6 c8 c9 d0 d1 hr;obtain⟨E2,b2⟩:=eY (fun x=>if x<=i then E x else I3 (E i) o.dst v:Nat->Env);obtain⟨V2,b4⟩:=eY (fun x=>if x=i then v else V x:Nat->Value);obtain⟨K2,b3⟩:=eY (fun x=>if x<=nT ops i then K x else H2:Nat->d8);have eE:∀x,x<=i->E2 x=E x:=fun x X=>by rw[b2];exact if_pos X
   have b1:E2 (i+1)=I3 (E i) o.dst v:=by rw[b2];exact if_neg oM
   have eV:∀x,x≠i->V2 x=V x:=fun x X=>by rw[b4];exact if_neg X
   have a3:V2 i=v:=by rw[b4];exact if_pos rfl
   have eK:∀x,x<=nT ops i->K2 x=K x:=fun x X=>by rw[b3];exact if_pos X
   have a5:A9 o.op=true->K2 (nT ops i+1)=H2:=fun _=>by rw[b3];exact if_neg oM
   have b8:K2 (nT ops (i+1))=H2:=by
    cases u:A9 o.op with
    |true=>rw[z,if_pos u];exact a5 u
    |false=>rw[z,if_neg (by simp [u]),Nat.add_zero,eK _ lR,c0 u]
   have b6:∀x,x<i->nT ops x<=nT ops i:=fun x X=>sC oM;have b7:∀(x:Nat) O,x<i->ops[x]?=some O->A9 O.op=true->nT ops x+1<=nT ops i:=fun x O X h1 h2=>ij h1 h2 X;have b9:Tr P C ops (E4 ops.toList []) (i+1) E2 V2 K2:=by
    refine⟨fun x O X y=>?_,fun x O X y=>?_,fun x O X y I=>?_,fun x O X y I S=>?_,fun x O X y I S D j hj a6 b5=>?_,fun x O X y I S D H3=>?_⟩
    .by_cases J:x=i
     .subst J;have:O=o:=Option.some.inj (y.symm.trans ho);subst this;rw[b1,eE x lR,a3]
     .rw[eE (x+1) oM,eE x oM,eV x J];exact hT.step x O oM y
    .by_cases J:x=i
     .subst J;have:O=o:=Option.some.inj (y.symm.trans ho);subst this;rw[eE x lR];exact a8
     .rw[eE x oM];exact hT.nl x O oM y
    .by_cases J:x=i
     .subst J;have:O=o:=Option.some.inj (y.symm.trans ho);subst this;rw[eE x lR]at I;obtain⟨q1,q2⟩:=c3 I;exact⟨by rw[a3];exact q1,fun S=>by rw[a5 S,eK _ lR];exact q2⟩
     .rw[eE x oM]at I;obtain⟨q1,q2⟩:=hT.off x O oM y I;exact⟨by rw[eV x J];exact q1,fun S=>by rw[eK _ (b7 x O oM y S),eK _ (b6 x oM)];exact q2 S⟩
    .by_cases J:x=i
     .subst J;have:O=o:=Option.some.inj (y.symm.trans ho);subst this;rw[eE x lR]at I ⊢;rw[eK _ lR,a3,a5 S];exact c4 I S
     .rw[eE x oM]at I ⊢;rw[eV x J,eK _ (b6 x oM),eK _ (b7 x O oM y S)];exact hT.turn x O oM y I S
    .by_cases J:x=i
     .subst J;have:O=o:=Option.some.inj (y.symm.trans ho);subst this;rw[eE x lR]at I ⊢;rw[z,if_neg (by simp [S]),Nat.add_zero]at hj;rw[a3,eK j hj];exact c5 I S D j hj a6
     .rw[eE x oM]at I ⊢;rw[eV x J];by_cases a4:j<=nT ops i
      .rw[eK j a4];exact hT.pure x O oM y I S D j a4 a6 b5
      .cases u:A9 o.op with
       |false=>rw[z,if_neg (by simp [u])]at hj;omega
       |true=>
        rw[z,if_pos u]at hj;have:j=nT ops i+1:=oM;subst this;rw[a5 u];exact c6 u x O oM y I S D b5
    .by_cases J:x=i
     .subst J;have:O=o:=Option.some.inj (y.symm.trans ho);subst this;rw[eE x lR]at I ⊢;rw[a3];exact c7 I S D H3
     .rw[eE x oM]at I ⊢;rw[eV x J];exact hT.flat x O oM y I S D H3
   have d2:I7 P C ops (nT ops (i+1)) a2 W ((jw ops).drop (i+1)) (E2 (i+1)) (K2 (nT ops (i+1)))=some (e',H'):=by rw[b1,b8];exact hr
   obtain⟨E',V',K',q1,q2,q3,q4⟩:=ih (i+1) _ a2 W E2 V2 K2 oM rfl b9 (fun j hj=>by
     by_cases a4:j<nT ops i
     .rw[eK j oM];exact c8 j a4
     .cases u:A9 o.op with
      |false=>rw[z,if_neg (by simp [u])]at hj;omega
      |true=>
       rw[z,if_pos u]at hj;have:j=nT ops i:=oM;subst this;rw[eK _ lR];exact c9 u) (fun x O X y I S D=>by
     by_cases J:x=i
     .subst J;have:O=o:=Option.some.inj (y.symm.trans ho);subst this;rw[eE x lR]at I ⊢;rw[a3];exact d1 I S D
     .rw[eE x oM]at I ⊢;rw[eV x J];exact d0 _ (hO x O oM y I S D)) d2
   exact⟨E',V',K',q1,by rw[q2,eE 0 oM],by rw[q3,eK 0 oM],q4⟩
  cases I:E0 ops (E i) o with
  |true=>
   rw[if_pos I]at h;cases u:A9 o.op with
   |true=>
    rw[if_pos u]at h;split at h
    .rename_i v r a7;split at h
     .rename_i hc;refine a1 v (r.getD (K (nT ops i))) _ U (fun q=>by rw[u]at q;cases q) (fun q=>by rw[I]at q;cases q) (fun _ _=>⟨r,a7,rfl⟩) (fun _ q=>by rw[u]at q;cases q) (fun _ q=>by rw[u]at q;cases q) (fun _ x O X y b0 a9 D h2=>tR hc _ _ _ _ (hO x O X y b0 a9 D) h2)
       (fun j hj=>List.mem_cons_of_mem _ (hK j hj)) (fun _=>List.mem_cons_self ..) (fun q hq=>hq) (fun _ q=>by rw[u]at q;cases q) ?_
      rw[z,if_pos u];exact h
     .cases h
    .cases h
   |false=>
    rw[if_neg (by simp [u])]at h;split at h
    .rename_i v a7;have hn:nT ops (i+1)=nT ops i:=by rw[z,if_neg (by simp [u])];rfl
     cases D:rdK o.op with
     |true=>
      rw[if_pos D]at h;split at h
      .rename_i hc;refine a1 v (K (nT ops i)) Ks ((o.op,E i,v,(bX ops (E4 ops.toList []) i).2)::U) (fun _=>rfl) (fun q=>by rw[I]at q;cases q) (fun _ q=>by rw[u]at q;cases q) (fun _ _ _ j hj a6=>?_) (fun _ _ q=>by rw[D]at q;cases q) (fun q=>by rw[u]at q;cases q)
        hK (fun q=>by rw[u]at q;cases q) (fun q hq=>List.mem_cons_of_mem _ hq) (fun _ _ _=>List.mem_cons_self ..) ?_
       .by_cases a4:j<nT ops i
        .exact tQ hc j _ (hK j a4) a6
        .have:j=nT ops i:=oM;subst this;exact a7
       .rw[hn];exact h
      .cases h
     |false=>
      rw[if_neg (by simp [D])]at h;refine a1 v (K (nT ops i)) Ks U (fun _=>rfl) (fun q=>by rw[I]at q;cases q) (fun _ q=>by rw[u]at q;cases q) (fun _ _ q=>by rw[D]at q;cases q) (fun _ _ _ H3=>by rw[wj u D (H2:=K (nT ops i))];exact a7) (fun q=>by rw[u]at q;cases q)
       hK (fun q=>by rw[u]at q;cases q) (fun q hq=>hq) (fun _ _ q=>by rw[D]at q;cases q) ?_
      rw[hn];exact h
    .cases h
  |false=>
   rw[if_neg (by simp [I])]at h;cases u:A9 o.op with
   |true=>
    rw[if_pos u]at h;refine a1 undef (K (nT ops i)) _ U (fun _=>rfl) (fun _=>⟨rfl,rfl⟩) (fun q=>by rw[I]at q;cases q) (fun q=>by rw[I]at q;cases q) (fun q=>by rw[I]at q;cases q) (fun _ x O X y b0 a9 D h2=>?_)
     (fun j hj=>List.mem_cons_of_mem _ (hK j hj)) (fun _=>List.mem_cons_self ..) (fun q hq=>hq) (fun q=>by rw[I]at q;cases q) ?_
    .refine hT.pure x O X y b0 a9 D (nT ops i) lR ?_ oM;apply Classical.byContradiction;intro hn;obtain⟨c,oc,h3,h4,h5,h6⟩:=Gc (ops:=ops) (A:=E4 ops.toList []) (i:=x) (j:=nT ops i) oM;have h7:=hM.anc_lt x c O y (Q8 h3) h6;have h8:=ij h3 h4 h7;have h9:=sC (ops:=ops) (show x<=i from oM);omega
    .rw[z,if_pos u];exact h
   |false=>
    rw[if_neg (by simp [u])]at h;refine a1 undef (K (nT ops i)) Ks U (fun _=>rfl) (fun _=>⟨rfl,rfl⟩) (fun q=>by rw[I]at q;cases q) (fun q=>by rw[I]at q;cases q) (fun q=>by rw[I]at q;cases q) (fun q=>by rw[u]at q;cases q)
     hK (fun q=>by rw[u]at q;cases q) (fun q hq=>hq) (fun q=>by rw[I]at q;cases q) ?_
    rw[z,if_neg (by simp [u]),Nat.add_zero];exact h
theorem Ir{e e':Env}{x:Operand}(h:∀t,x= .tmp t->e.get t=e'.get t):opv e x=opv e' x:=by
 cases x<;>first|rfl|exact h _ rfl
theorem Ak{P:Program}{C:A8}{e e':Env}(o:Op)(H:d8)(h:∀x∈o.operands.toList,opv e x=opv e' x):aop P C o e H=aop P C o e' H:=by
 have W:∀z:Array (Nat×Operand),(∀x∈z.toList.map (·.2),opv e x=opv e' x)->(z.toList.map fun(i,x)=>(i,opv e x))=(z.toList.map fun(i,x)=>(i,opv e' x)):=fun z E=>by
  apply List.map_congr_left;intro q hq;obtain⟨i,x⟩:=q;simp only[Prod.mk.injEq,true_and];exact E x (List.mem_map.2 ⟨(i,x),hq,rfl⟩)
 have O:∀z:Array Operand,(∀x∈z.toList,opv e x=opv e' x)->z.toList.map (opv e)=z.toList.map (opv e'):=fun z E=>List.map_congr_left E;have S:∀x:Option Operand,(∀y∈x.toList,opv e y=opv e' y)->x.map (opv e)=x.map (opv e'):=fun x E=>by
  cases x with
  |none=>rfl
  |some y=>simp only[Option.map_some,Option.some.injEq];exact E y sM
 cases o
 case call c=>
  obtain⟨J,X,a1⟩:=c;simp only[Op.operands,Call.operands,Array.toList_append,List.mem_append]at h;have U:=O X fun x D=>h x (.inr D);cases J with
  |value f=>
   have hf:=h f (.inl sM);simp only[aop,fI,hf,U]
  |builtin b=>simp only[aop,fI,U]
  |invoke r m=>rfl
 case build t z=>simp only[aop];rw[W z (fun x D=>h x (by simpa [Op.operands] using D))]
 case buildSlice t n z=>simp only[aop];rw[W z (fun x D=>h x (by simpa [Op.operands] using D))]
 case makeFunc fn first u=>
  simp only[Op.operands,Array.toList_append,List.mem_append]at h;simp only[aop];rw[O first (fun x D=>h x (.inl D)),O u (fun x D=>h x (.inr D))]
 case slice t x lo hi mx=>
  simp only[Op.operands,Array.toList_append,List.mem_append,Option.toList_toArray]at h;simp only[aop];rw[h x (.inl (.inl (.inl sM))),S lo (fun y I=>h y (.inl (.inl (.inr I)))),S hi (fun y I=>h y (.inl (.inr I))),S mx (fun y I=>h y (.inr I))]
 case makeMap t r=>cases r<;>rfl
 case next it b=>
  simp only[Op.operands,List.mem_cons,List.not_mem_nil,or_false,forall_eq]at h;cases b
  .rfl
  .simp only[aop,h]
 all_goals first
  |rfl
  |(simp only[Op.operands,List.mem_cons,List.not_mem_nil,or_false,forall_eq_or_imp,forall_eq]at h
    simp only[aop,h])
end
section
variable{P:Program}{base:Bs}{w0:World}{φ:List Loc}{S:List Blk}{w:World}{nt:Nat}{e:Env}{a:Act}
def hU(base:Bs)(w0:World)(φ:List Loc)(H:d8)(w:World)(nt:Nat)(ds:List Deferred)(e':Env)(H':d8)(K:Act->World->Prop):Prop:=
 ∀φ' a' w',Ext φ φ'->ER φ' nt e' a'->WR base w0 φ' H'.bs w'->Fr φ H.bs H'.low w w'->a'.defers=ds->K a' w'
theorem Z7{ops:Array Oper}(h:fw nt ops=true){o:Oper}(u:o∈ops.toList):o.op.operands.toList.all C5=true/\fo nt o.dst=true:=by
 have:=List.all_eq_true.1 h o u
 simpa only[Bool.and_eq_true] using this
theorem V6{ops:Array Oper}(h:fw nt ops=true)(j:Nat)(u:Oper)(d:Nat)(z:ops[j]?=some u)(y:u.dst=some d):d<nt:=by
 have:=(Z7 h (o:=u) (by simpa using Array.mem_of_getElem? z)).2;rw[y]at this
 simpa [fo] using this
theorem Y2{C:A8}{o:Oper}{H:d8}{v:Value}{r:Option d8}(J:isCall o.op=true)(h:aop P C o.op e H=some (v,r)):
  ∃(c:Call)(f:Operand)(g:FuncId)(first u:Array Value),o.op= .call c/\c.callee= .value f/\opv e f= .func (.func g) first u/\C g (first.toList++c.args.toList.map (opv e)++u.toList) H=some (v,r):=by
 obtain⟨U,op,ty,X,y,I⟩:=o;simp only at h J;cases op<;>first|(cases J;done)|skip
 rename_i c;obtain⟨z,as,O⟩:=c;cases z<;>first|(cases J;done)|skip
 rename_i f;simp only[aop,fI]at h;split at h
 .rename_i g first u W;exact⟨_,f,g,first,u,rfl,rfl,W,h⟩
 .cases h
theorem jo(H:d8):Fr φ H.bs H.low w w:=fun _ _ _ _ _ _ _=>rfl
theorem gL(U:ER φ nt e a){o:Oper}{c:Call}{f:Operand}{g:FuncId}{first y:Array Value}(I:o.op.operands.toList.all C5=true)(ho:o.op= .call c)(J:c.callee= .value f)
  (hf:opv e f= .func (.func g) first y):∃u h,a.eval f= .func (.func g) u h/\VRs φ (first.toList++c.args.toList.map (opv e)++y.toList) (u++c.args.map a.eval++h).toList:=by
 simp only[ho,Op.operands,Call.operands,J,Array.toList_append,List.all_append,Bool.and_eq_true,List.all_cons,List.all_nil,Bool.and_true]at I;have O:=U.op I.1;rw[hf]at O;generalize hz:a.eval f=z at O;cases O with
 |func g W X h3 h4=>
  rename_i u h;refine⟨u,h,rfl,?_⟩;simp only[Array.toList_append,Array.toList_map];exact VRs.append (VRs.append ⟨W,X⟩ (U.args I.2)) ⟨h3,h4⟩
theorem P0(a:Act)(d:Option Tmp)(v:Value):(a.put d v).defers=a.defers:=by unfold Act.put;split<;>rfl
def X8(P:Program)(C:A8):Prop:=∀base w0,bP P base w0 C
theorem fP(g:Nat->Value):∀(l:List Nat)(t:Nat),Env.get (l.map fun d=>(d,g d)) t=if t∈l then g t else undef
 |[],t=>by simp [Env.get]
 |d::l,t=>by
  simp only[List.map_cons,Env.get,fP g l t,List.mem_cons];by_cases h:d=t
  .subst h;simp
  .rw[if_neg h];have:t≠d:=fun q=>h q.symm;simp [this]
theorem Km{ops:Array Oper}{o:Oper}{Ei:Env}(X:∀cs b,o.op≠ .select cs b) (a5:a.tmps.size=nt) (hv:∀d∈o.looksAt ops,VR φ (Ei.get d) (a.tmps.getD d undef)):
  ∃e1 h,ER φ nt e1 h/\(∀(C:A8) H,aop P C o.op e1 H=aop P C o.op Ei H)/\execOp h.eval o=execOp a.eval o/\E0 ops e1 o=E0 ops Ei o/\X4 ops e1 o=X4 ops Ei o/\Region.wanted o (yielded ops h.tmps)=Region.wanted o (yielded ops a.tmps):=by
 obtain⟨h,I⟩:∃h:Act,h=⟨Array.ofFn (n:=nt) fun t=>if t.1∈o.looksAt ops then a.tmps.getD t.1 undef else undef,a.defers⟩:=⟨_,rfl⟩
 have a4:h.tmps.size=nt:=by rw[I];simp
 have y:∀(t:Nat),t∈o.looksAt ops->h.tmps[t]?=a.tmps[t]?:=fun t u=>by
  by_cases a2:t<nt
  .rw[I,Array.getElem?_ofFn,dif_pos a2];simp only[if_pos u];have:t<a.tmps.size:=oM;simp [this]
  .rw[Array.getElem?_eq_none oM,Array.getElem?_eq_none oM]
 have a3:∀(t:Nat),t∉o.looksAt ops->h.tmps.getD t undef=undef:=fun t u=>by
  rw[Array.getD_eq_getD_getElem?,I,Array.getElem?_ofFn];split
  .simp [u]
  .rfl
 have z:∀(t:Nat),t∈o.looksAt ops->h.tmps.getD t undef=a.tmps.getD t undef:=fun t u=>by
  rw[Array.getD_eq_getD_getElem?,Array.getD_eq_getD_getElem?,y t u]
 have W:∀x∈o.op.operands.toList,∀t,x= .tmp t->t∈o.looksAt ops:=fun x hx t J=>by
  subst J;exact List.mem_append_left _ (List.mem_filterMap.2 ⟨.tmp t,hx,rfl⟩)
 refine⟨(o.looksAt ops).map fun d=>(d,Ei.get d),h,⟨a4,fun t=>?_⟩,fun C H=>Ak o.op H fun x hx=>Ir fun t J=>?_,execOp_congr o X fun x hx=>?_,?_,?_,?_⟩
 .rw[fP];by_cases u:t∈o.looksAt ops
  .rw[if_pos u,z t u];exact hv t u
  .rw[if_neg u,a3 t u];exact VR.undef' φ
 .rw[fP,if_pos (W x hx t J)]
 .cases x with
  |tmp t=>exact z t (W _ (by simpa using hx) t rfl)
  |_=>rfl
 .unfold E0;cases U:o.guard with
  |none=>rfl
  |some q=>
   obtain⟨j,b⟩:=q;simp only;cases O:(ops[j]?).bind (·.dst)with
   |none=>rfl
   |some d=>
    have:d∈o.looksAt ops:=by
     refine List.mem_append_right _ ?_;simp [U,O]
    simp only[fP,if_pos this]
 .unfold X4;cases U:o.guard with
  |none=>rfl
  |some q=>
   obtain⟨j,b⟩:=q;simp only;cases O:(ops[j]?).bind (·.dst)with
   |none=>rfl
   |some d=>
    have:d∈o.looksAt ops:=by
     refine List.mem_append_right _ ?_;simp [U,O]
    simp only[fP,if_pos this]
 .unfold Region.wanted;cases U:o.guard with
  |none=>rfl
  |some q=>
   obtain⟨j,b⟩:=q;simp only[yielded];cases O:(ops[j]?).bind (·.dst)with
   |none=>rfl
   |some d=>
    have:d∈o.looksAt ops:=by
     refine List.mem_append_right _ ?_;simp [U,O]
    simp only[Option.bind_some,y d this]
def Bs.add(base:Bs)(Q:Nat->Prop):Bs:=⟨base.ro,fun k=>base.pr k\/Q k,fun k h=> .inl (base.sub k h)⟩
theorem BR.raise{B:Blk}{l:Loc}{Q:Nat->Prop}(h:BR base φ B l w)(u:B.mine=true->¬Q l.blk):BR (base.add Q) φ B l w:=by
 cases B with
 |dead=>trivial
 |cells c own sz=>
  obtain⟨z,I,J,O,U⟩:=h;refine⟨z,I,J,O,fun y=>?_⟩;obtain⟨W,X⟩:=U y;exact⟨fun q=>q.elim W (u (by simpa [Blk.mine] using y)),X⟩
 |map es=>exact⟨fun q=>q.elim h.1 (u rfl),h.2⟩
 |iter s p=>exact⟨fun q=>q.elim h.1 (u rfl),h.2⟩
theorem BR.lower{B:Blk}{l:Loc}{Q:Nat->Prop}(h:BR (base.add Q) φ B l w):BR base φ B l w:=by
 cases B with
 |dead=>trivial
 |cells c own sz=>
  obtain⟨u,y,z,I,J⟩:=h;refine⟨u,y,z,I,fun O=>?_⟩;obtain⟨U,W⟩:=J O;exact⟨fun q=>U (.inl q),W⟩
 |map X=>exact⟨fun q=>h.1 (.inl q),h.2⟩
 |iter s p=>exact⟨fun q=>h.1 (.inl q),h.2⟩
theorem WR.raise(h:WR base w0 φ S w)(Q:Nat->Prop)(J:∀k,Q k->k<w.heap.size) (hs:∀(b:Nat) B l,S[b]?=some B->B.mine=true->φ[b]?=some l->¬Q l.blk):WR (base.add Q) w φ S w:=
 ⟨h.len,Bel.refl _ _,fun k z=>z.elim (h.size k) (J k),fun b B l u y=>(h.blk b B l u y).raise fun I=>hs b B l u I y,h.sep⟩
theorem WR.lower{J:List Loc}{z:List Blk}{I:World}{Q:Nat->Prop}(h:WR (base.add Q) w J z I)(u:Bel base.pr w0 w):WR base w0 J z I:=
 ⟨h.len,⟨h.below.os.trans u.os,h.below.tape.trans u.tape,h.below.output.trans u.output,Nat.le_trans u.size h.below.size,fun k y=>(h.below.block k (.inl y)).trans (u.block k y)⟩,
  fun k y=>h.size k (.inl y),fun b B l O U=>(h.blk b B l O U).lower,h.sep⟩
theorem WR.grow{J:World}(h:WR base w0 φ S w)(I:But w J none)(y:Bel base.pr w0 J):WR base w0 φ S J:=by
 refine⟨h.len,y,fun k U=>Nat.lt_of_lt_of_le (h.size k U) I.1,fun b B l O W=>?_,h.sep⟩;have u:=h.blk b B l O W;by_cases z:B.mine=true
 .exact u.mono (Ext.refl φ) (I.2 _ (u.lt z).2 sM)
 .cases B with
  |dead=>trivial
  |cells c own sz=>
   have:own=false:=by simpa [Blk.mine] using z
   subst this;exact u.mono (Ext.refl φ) (I.2 _ (h.size _ u.below) sM)
  |map X=>exact absurd rfl z
  |iter s p=>exact absurd rfl z
theorem WR.snoc{B:Blk}{l:Loc}(h:WR base w0 φ S w)(hB:BR base (φ++[l]) B l w)(hs:∀(b:Nat) u y,S[b]?=some u->u.mine=true->φ[b]?=some y->y.blk≠l.blk):WR base w0 (φ++[l]) (S++[B]) w:=by
 have key:∀(b:Nat) u y,(S++[B])[b]?=some u->(φ++[l])[b]?=some y->(S[b]?=some u/\φ[b]?=some y)\/(b=S.length/\u=B/\y=l):=by
  intro b u y z I;by_cases J:b<S.length
  .rw[List.getElem?_append_left J]at z;rw[List.getElem?_append_left (by rw[h.len];exact J)]at I;exact .inl ⟨z,I⟩
  .rw[List.getElem?_append_right oM]at z;rw[List.getElem?_append_right (by rw[h.len];omega),h.len]at I;have h0:b-S.length=0:=by
    have:=(gS z).1;simp at this;omega
   rw[h0]at z I;simp at z I;exact .inr ⟨oM,z.symm,I.symm⟩
 refine⟨by simp [h.len],h.below,h.size,fun b u y z I=>?_,fun b X B1 W l1 l2 a1 p1 p2 m1 m2 q1 q2=>?_⟩
 .rcases key b u y z I with⟨O,U⟩|⟨_,rfl,rfl⟩
  .exact(h.blk b u y O U).mono (Ext.snoc φ l) rfl
  .exact hB
 .rcases key b B1 l1 p1 q1 with⟨O,U⟩|⟨h0,rfl,rfl⟩<;>rcases key X W l2 p2 q2 with⟨h3,h4⟩|⟨h5,rfl,rfl⟩
  .exact h.sep b X B1 W l1 l2 a1 O h3 m1 m2 U h4
  .exact hs b B1 l1 O m1 U
  .exact fun q=>hs X W l2 h3 m2 h4 q.symm
  .omega
theorem LZ{c xs:LV}{ty:TypeId}{sz:Nat}(hs:∀k,base.pr k->k<w.heap.size) (I:VRs φ c xs) (u:∀x∈c,x.oneCell'=true):
  BR base φ (.cells c true sz) ⟨w.heap.size,0,xs.length,sz⟩ (w.alloc (.cells xs.toArray ty)):=by
 have h:(w.alloc (.cells xs.toArray ty)).heap[w.heap.size]?=some (.cells xs.toArray ty):=heap_alloc_new w _;refine⟨rfl,u,fun i x z=>?_,(by intro J;cases J),fun _=>⟨dV hs,by show c.length<=xs.length;rw[I.1];exact lR,_,ty,(0,0),h,by simp,fun i z=>?_⟩⟩
 .obtain⟨y,U,O⟩:=I.get z;refine⟨y,?_,O⟩;unfold World.cell?;simp only[h,Option.isSome_none,bF,Nat.zero_add];simp [U]
 .unfold World.frozen?;simp only[h];simp
theorem xh{C:A8}{o:Oper}{H:d8}{v:Value}{r:Option d8}(hW:WR base w0 φ S w)(hE:ER φ nt e a)(W:o.op.operands.toList.all C5=true)(hf:az o.op=true)(h:aop P C o.op e H=some (v,r)):
  ∃(B:Blk)(mk:Nat->Value)(v':Value)(w1:World)(l:Loc),B.mine=true/\r=some (H.push B)/\v=mk H.next/\(execOp a.eval o).run P w= .ok (.value v') w1/\l.blk=w.heap.size/\But w w1 none/\Bel base.pr w0 w1/\BR base φ B l w1/\(∀(k:Nat)(o':Obj),w.heap[k]?=some o'->w1.heap[k]?=some o')/\∀(J:List Loc)(b:Nat),J[b]?=some l->VR J (mk b) v':=by
 have a1:∀{s:Sem Value}{c xs:LV}{ty:TypeId}{sz:Nat}{v':Value}(mk:Nat->Value),VRs φ c xs->(∀x∈c,x.oneCell'=true)->s.run P w= .ok v' (w.alloc (.cells xs.toArray ty))->execOp a.eval o=(do pure (.value (<-s)))->r=some (H.push (.cells c true sz))->v=mk H.next->
   (∀(J:List Loc)(b:Nat),J[b]?=some ⟨w.heap.size,0,xs.length,sz⟩->VR J (mk b) v')->
   ∃(B:Blk)(mk:Nat->Value)(v':Value)(w1:World)(l:Loc),B.mine=true/\r=some (H.push B)/\v=mk H.next/\(execOp a.eval o).run P w= .ok (.value v') w1/\l.blk=w.heap.size/\But w w1 none/\Bel base.pr w0 w1/\BR base φ B l w1/\(∀(k:Nat)(o':Obj),w.heap[k]?=some o'->w1.heap[k]?=some o')/\∀(J:List Loc)(b:Nat),J[b]?=some l->VR J (mk b) v':=by
  intro s c xs ty sz v' mk hx a3 a4 a8 hr hv a9;refine⟨.cells c true sz,mk,v',w.alloc (.cells xs.toArray ty),⟨w.heap.size,0,xs.length,sz⟩,rfl,hr,hv,by rw[a8];simp only[Sem.run_bind,a4,Result.andThen_ok,Sem.run_pure],rfl,⟨by simp,fun j hj _=>Below.heap_alloc _ _ _ hj⟩,hW.below.alloc hW.size _,LZ hW.size hx a3,fun k o' hk=>?_,a9⟩;rw[Below.heap_alloc _ _ _ (gA hk).1];exact hk
 obtain⟨b1,op,ty,b2,a6,a7⟩:=o;simp only at h hf W;cases op<;>first|(cases hf;done)|skip
 case alloc t=>
  simp only[aop]at h;obtain⟨H',y,h2⟩:=C3 h;simp only[Option.map_eq_some_iff,Prod.mk.injEq]at y;obtain⟨z,hz,h3,h4⟩:=y;obtain⟨I,k1,k2,k3,k4⟩:=cL hz w;subst k2;refine a1 (s:=Instr.alloc t true (.tuple #[])) (c:=I.cells.toList) (xs:=I.cells.toList) (ty:=t) (sz:=1) (v':= .pointer (some ⟨w.heap.size,0,none⟩)) (fun b=> .pointer (some ⟨b,0,none⟩)) (VRs.na0 k3) (jA k3) ?_ rfl (by rw[h2,<-h4]) h3.symm (fun J b X=>VR.ptr (o:=0) X);simp only[Instr.alloc,Sem.run_bind,k1,Result.andThen_ok,newVar,newRow,newObj,Sem.run,Sem.run_pure,List.append_nil,Array.toArray_toList];rfl
 case buildSlice t u ps=>
  simp only[aop]at h;simp only[Op.operands]at W;obtain⟨H',y,h2⟩:=C3 h;have hp:=hE.parts (xs:=ps) (by simpa using W);unfold Q7 at y;split at y
  rotate_left
  .cases y
  rename_i e2 he;have hu:=Z0 he;split at y
  rotate_left
  .cases y
  rename_i z hz;split at y
  .cases y
  rename_i X;split at y
  rotate_left
  .cases y
  rename_i cs a2;cases y;obtain⟨I,k1,k2,k3,k4⟩:=cL hz w;subst k2;have a5:I.cells.toList.length≠0:=fun h=>X (.inl h);obtain⟨cs',e1,e3⟩:=eO a2 (φ:=φ) (cs':=(List.replicate u I.cells.toList).flatten) (VRs.na0 (by
   simp only[List.all_flatten,List.all_replicate];simp [k3])) hp
  refine a1 (s:=Instr.buildSlice t u ((ps.toList.map fun(i,x)=>(i,a.eval x)).toArray)) (c:=cs) (xs:=cs') (ty:=e2) (sz:=I.cells.toList.length) (v':= .slice (some ⟨w.heap.size,0,none⟩) u u) (fun b=> .slice (some ⟨b,0,none⟩) u u) e3 (un a2 (jA (by simp only[List.all_flatten,List.all_replicate];simp [k3])) (fun p hp=>by
    have:=(Bool.not_eq_false _).mp (fun h=>X (.inr (.inr h)));exact fun x hx=>List.all_eq_true.1 (List.all_eq_true.1 this p hp) x hx)) ?_ ?_ h2 rfl (fun J b X=>VR.exact (o:=0) X)
  .have O:(Array.range (u*I.cells.toList.length)).map (fun i=>I.cells[i % I.cells.size]!)=(List.replicate u I.cells.toList).flatten.toArray:=by
    apply Array.toList_inj.1;rw[<-Mm I.cells.toList u a5];simp
   have c1:¬u*I.cells.toList.length>2 ^ 24:=oM;by_cases U:u*I.cells.toList.length=0
   .have:u=0:=by
     rcases Nat.mul_eq_zero.1 U with h|h
     .exact h
     .exact absurd h a5
    subst this;simp only[List.replicate_zero,List.flatten_nil]at e1;simp only[Instr.buildSlice,Sem.run_bind,run_underlying hu,Result.andThen_ok,C1 k4,if_neg c1,U,if_true,Sem.run_pure];simp only[Array.range_zero',Array.map_empty,e1,Sem.run_bind,newRow,newObj,Sem.run,Sem.run_pure,Result.andThen_ok];rfl
   .simp only[Instr.buildSlice,Sem.run_bind,run_underlying hu,Result.andThen_ok,C1 k4,if_neg c1,if_neg U,k1,Sem.run_pure,O,e1,newRow,newObj,Sem.run];rfl
  .have b0:(ps.map fun(i,x)=>(i,a.eval x))=((ps.toList.map fun(i,x)=>(i,a.eval x)).toArray):=by apply Array.toList_inj.1;simp
   simp only[execOp,b0]
theorem iI(e:Env)(d:Nat)(v:Value):I3 e (some d) v=(d,v)::e:=rfl
structure Rig(P:Program)(C:A8)(ops:Array Oper)(E:Nat->Env)(V:Nat->Value)(K:Nat->d8)(nt:Nat):Prop where
 mix:pi ops (E4 ops.toList [])
 tr:Tr P C ops (E4 ops.toList []) ops.size E V K
 okc:X8 P C
 okn:fw nt ops=true
structure St(ops:Array Oper)(base:Bs)(w0:World)(V:Nat->Value)(K:Nat->d8)(e0:Env)(φ0:List Loc)(H0:d8)(ws:World)(nt:Nat)(ds:List Deferred)(m:Nat)(φ:List Loc)(L:Nat->Loc)(D:Nat->Prop)(a:Act)(w:World):Prop where
 closed:∀(i:Nat) o,ops[i]?=some o->D i->∀d∈U2 o,D d
 mle:m<=nT ops ops.size
 low:∀(i:Nat) o,ops[i]?=some o->A9 o.op=true->nT ops i<m->D i
 high:∀(i:Nat) o,ops[i]?=some o->A9 o.op=true->m<=nT ops i->D i->az o.op=true
 ext:Ext φ0 φ
 le:Le H0 (K m)
 wr:WR base w0 φ (K m).bs w
 fr:Fr φ0 H0.bs (K m).low ws w
 tsz:a.tmps.size=nt
 dfr:a.defers=ds
 t0:∀(t:Nat),(∀(i:Nat) o,ops[i]?=some o->D i->o.dst≠some t)->VR φ (e0.get t) (a.tmps.getD t undef)
 t1:∀(i:Nat) o(d:Nat),ops[i]?=some o->D i->o.dst=some d->(A9 o.op=true->nT ops i<m)->VR φ (V i) (a.tmps.getD d undef)
 pend:∀(i:Nat) o(d:Nat),ops[i]?=some o->D i->A9 o.op=true->m<=nT ops i->o.dst=some d->∃(B:Blk)(mk:Nat->Value),B.mine=true/\K (nT ops i+1)=(K (nT ops i)).push B/\V i=mk (K (nT ops i)).next/\BR base φ B (L i) w/\(∀(φ2:List Loc)(b:Nat),φ2[b]?=some (L i)->VR φ2 (mk b) (a.tmps.getD d undef))/\∀(b:Nat) B' l',(K m).bs[b]?=some B'->B'.mine=true->φ[b]?=some l'->l'.blk≠(L i).blk
 sep:∀(i j:Nat) oi oj,ops[i]?=some oi->ops[j]?=some oj->D i->D j->A9 oi.op=true->A9 oj.op=true->m<=nT ops i->m<=nT ops j->i≠j->(L i).blk≠(L j).blk
section
variable{C:A8}{ops:Array Oper}{E:Nat->Env}{V:Nat->Value}{K:Nat->d8}{e0:Env}{φ0:List Loc}{H0:d8}{ws:World}{ds:List Deferred}{m:Nat}{L:Nat->Loc}{D:Nat->Prop}
theorem St.absorb(hM:pi ops (E4 ops.toList []))(h:St ops base w0 V K e0 φ0 H0 ws nt ds m φ L D a w){i:Nat}{o:Oper}(O:ops[i]?=some o)(ht:A9 o.op=true)(hn:nT ops i=m)(hD:D i):St ops base w0 V K e0 φ0 H0 ws nt ds (m+1) (φ++[L i]) L D a w:=by
 have hf:=h.high i o O ht oM hD;obtain⟨_,d,hd⟩:=hM.free i o O hf;obtain⟨B,mk,hm,hK,hV,hB,a6,hs⟩:=h.pend i o d O hD ht oM hd;rw[hn]at hK hV;have hx:=Ext.snoc φ (L i);have W:=ij O ht (Q8 O);refine⟨h.closed,oM,fun j I y z W=>?_,fun j I y z a5=>h.high j I y z oM,h.ext.trans hx,by rw[hK];exact h.le.trans (Le.push _ _),?_,by rw[hK];exact h.fr,h.tsz,h.dfr,fun t q=>(h.t0 t q).mono hx,fun j I dj y u J W=>?_,fun j I dj y u z a5 J=>?_,fun j k I ok y hk u a3 z tk U h2=>h.sep j k I ok y hk u a3 z tk oM oM⟩
 .by_cases a2:nT ops j<m
  .exact h.low j I y z a2
  .have:j=i:=sB y O z ht oM;rw[this];exact hD
 .rw[hK];exact h.wr.snoc (hB.mono hx rfl) (fun b B' l' U h2 X=>hs b B' l' U h2 X)
 .by_cases a1:j=i
  .subst a1;have:I=o:=Option.some.inj (y.symm.trans O);subst this;have:dj=d:=Option.some.inj (J.symm.trans hd);subst this;rw[hV];exact a6 _ _ (Q2 h.wr)
  .refine(h.t1 j I dj y u J fun z=>?_).mono hx;have:=W z;by_cases a2:nT ops j=m
   .exact absurd (sB y O z ht oM) a1
   .omega
 .obtain⟨B2,a7,q1,q2,q3,q4,q5,q6⟩:=h.pend j I dj y u z oM J;refine⟨B2,a7,q1,q2,q3,q4.mono hx rfl,q5,fun b B' l' U h2 X=>?_⟩;rw[hK]at U;simp only[d8.push]at U;by_cases hb:b<(K m).bs.length
  .rw[List.getElem?_append_left hb]at U;rw[List.getElem?_append_left (by rw[h.wr.len];exact hb)]at X;exact q6 b B' l' U h2 X
  .have a4:=(gS U).1;rw[List.length_append,List.length_cons,List.length_nil]at a4;have:b=(K m).bs.length:=oM;subst this;rw[Q2 h.wr]at X;cases X;exact h.sep i j o I O y hD u ht z oM oM (fun q=>by subst q;omega)
theorem St.norm(U:pi ops (E4 ops.toList [])):∀(g m:Nat)(φ:List Loc),g+m=nT ops ops.size->St ops base w0 V K e0 φ0 H0 ws nt ds m φ L D a w->∃O φ',St ops base w0 V K e0 φ0 H0 ws nt ds O φ' L D a w/\∀(i:Nat) o,ops[i]?=some o->A9 o.op=true->nT ops i=O->¬D i:=by
 intro g;induction g with
 |zero=>
  intro m φ W h;refine⟨m,φ,h,fun i o u z I=>?_⟩;have:=ij u z (Q8 u);omega
 |succ g X=>
  intro m φ W h;by_cases y:∃(i:Nat)(o:Oper),ops[i]?=some o/\A9 o.op=true/\nT ops i=m/\D i
  .obtain⟨i,o,u,z,I,J⟩:=y;exact X (m+1) _ oM (h.absorb U u z I J)
  .exact⟨m,φ,h,fun i o u z I J=>y ⟨i,o,u,z,I,J⟩⟩
theorem Jc(O:Rig P C ops E V K nt):∀(i k:Nat) ok(d:Nat),k<i->i<=ops.size->ops[k]?=some ok->ok.dst=some d->(E i).get d=V k:=by
 intro i;induction i with
 |zero=>intro k ok d U;omega
 |succ i W=>
  intro k ok d U hi u z;have h:ops[i]?=some ops[i]:=Array.getElem?_eq_getElem oM;rw[O.tr.step i _ oM h];by_cases y:k=i
  .subst y;have:ok=ops[k]:=Option.some.inj (u.symm.trans h);rw[<-this,z,iI,Env.get,if_pos rfl]
  .have J:ops[i].dst≠some d:=fun q=>y (O.mix.dst k i _ _ d u h z q);have:=W k ok d oM oM u z;cases I:ops[i].dst with
   |none=>exact this
   |some X=>rw[iI,Env.get,if_neg (fun q=>J (by rw[I,q]))];exact this
theorem vT(I:Rig P C ops E V K nt):∀(i:Nat)(d:Nat),i<=ops.size->(∀(k:Nat) ok,k<i->ops[k]?=some ok->ok.dst≠some d)->(E i).get d=(E 0).get d:=by
 intro i;induction i with
 |zero=>intro d _ _;rfl
 |succ i J=>
  intro d U h;have u:ops[i]?=some ops[i]:=Array.getElem?_eq_getElem oM;rw[I.tr.step i _ oM u];have:=J d oM fun k ok W=>h k ok oM;have z:=h i _ oM u;cases y:ops[i].dst with
  |none=>exact this
  |some O=>rw[iI,Env.get,if_neg (fun q=>z (by rw[y,q]))];exact this
theorem St.reads(hR:Rig P C ops E V K nt)(h0:E 0=e0)(h:St ops base w0 V K e0 φ0 H0 ws nt ds m φ L D a w){i:Nat}{o:Oper}(W:ops[i]?=some o)(a7:¬D i)(J:∀d∈U2 o,D d) (a5:A9 o.op=true->az o.op=false->nT ops i=m):
  ∀d∈o.looksAt ops,VR φ ((E i).get d) (a.tmps.getD d undef):=by
 intro d hd;have X:=hR.mix;by_cases U:∃(k:Nat)(ok:Oper),ops[k]?=some ok/\ok.dst=some d
 .obtain⟨k,ok,y,u⟩:=U;rcases X.look i k o ok d W y u hd with⟨a3,z⟩|⟨b2,z⟩
  .have a1:D k:=X.done h.closed i k o W (Q8 y) J z;rw[Jc hR i k ok d a3 (Nat.le_of_lt (Q8 W)) y u];refine h.t1 k ok d y a1 u fun tk=>?_;cases a2:az ok.op with
   |true=>
    rcases X.flo i k o ok d W y a2 u with⟨t1,f1⟩|a9
    .rw[<-a5 t1 f1];exact ij y tk a3
    .exact absurd hd a9
   |false=>
    apply Classical.byContradiction;intro b1;have:=h.high k ok y tk oM a1;rw[a2]at this;cases this
  .have a8:¬D k:=fun q=>a7 (X.done h.closed k i ok y (Q8 W) (h.closed k ok y q) z);rw[vT hR i d (Nat.le_of_lt (Q8 W)) (fun k' b0 b3 a4 I=>by have:=X.dst k k' ok b0 d y a4 u I;omega),h0];exact h.t0 d fun j oj hj a6 O=>a8 ((X.dst k j ok oj d y hj u O)▸a6)
 .rw[vT hR i d (Nat.le_of_lt (Q8 W)) (fun k ok _ y I=>U ⟨k,ok,y,I⟩),h0];exact h.t0 d fun j oj hj _ O=>U ⟨j,oj,hj,O⟩
theorem Y0(a:Act){d:Option Nat}(u:fo a.tmps.size d=true)(v:Value)(t:Nat):(a.put d v).tmps.getD t undef=if d=some t then v else a.tmps.getD t undef:=by
 cases d with
 |none=>rfl
 |some d=>
  simp only[fo,decide_eq_true_eq]at u;simp only[Act.put];by_cases h:d=t
  .subst h;rw[if_pos rfl];simp only[Array.getD_eq_getD_getElem?,Array.getElem?_setIfInBounds,if_true,u,Option.getD_some]
  .rw[if_neg (fun q=>h (Option.some.inj q))];simp only[Array.getD_eq_getD_getElem?,Array.getElem?_setIfInBounds,if_neg h]
theorem oD(a:Act)(d:Option Nat)(v:Value):(a.put d v).tmps.size=a.tmps.size:=by
 cases d with
 |none=>rfl
 |some d=>simp [Act.put]
theorem St.pure(hR:Rig P C ops E V K nt)(h:St ops base w0 V K e0 φ0 H0 ws nt ds m φ L D a w){i:Nat}{o:Oper}(W:ops[i]?=some o)(a4:¬D i)(a1:∀d∈U2 o,D d) (ht:A9 o.op=false) {v':Value} (hv:VR φ (V i) v'):
  St ops base w0 V K e0 φ0 H0 ws nt ds m φ L (fun x=>D x\/x=i) (a.put o.dst v') w:=by
 have hM:=hR.mix;have I:fo a.tmps.size o.dst=true:=by rw[h.tsz];exact(Z7 hR.okn (by simpa using Array.mem_of_getElem? W)).2
 have U:∀(j:Nat) y(d:Nat),ops[j]?=some y->D j->y.dst=some d->o.dst≠some d:=fun j y d z u O q=>a4 ((hM.dst j i y o d z W O q)▸u);refine⟨fun j y z u d O=>?_,h.mle,fun j y z J a3=> .inl (h.low j y z J a3),fun j y z J a2 u=>?_,h.ext,h.le,h.wr,h.fr,by rw[oD];exact h.tsz,by rw[P0];exact h.dfr,fun t q=>?_,fun j y d z u O a3=>?_,fun j y d z u J a2 O=>?_,fun j k y ok z hk u X J tk h1 h2 U=>?_⟩
 .rcases u with u|rfl
  .exact .inl (h.closed j y z u d O)
  .have:y=o:=Option.some.inj (z.symm.trans W);subst this;exact .inl (a1 d O)
 .rcases u with u|rfl
  .exact h.high j y z J a2 u
  .have:y=o:=Option.some.inj (z.symm.trans W);subst this;rw[ht]at J;cases J
 .rw[Y0 a I,if_neg (q i o W (.inr rfl))];exact h.t0 t fun j y z u=>q j y z (.inl u)
 .rcases u with u|rfl
  .rw[Y0 a I,if_neg (U j y d z u O)];exact h.t1 j y d z u O a3
  .have:y=o:=Option.some.inj (z.symm.trans W);subst this;rw[Y0 a I,if_pos O];exact hv
 .rcases u with u|rfl
  .rw[Y0 a I,if_neg (U j y d z u O)];exact h.pend j y d z u J a2 O
  .have:y=o:=Option.some.inj (z.symm.trans W);subst this;rw[ht]at J;cases J
 .rcases u with u|rfl
  .rcases X with X|rfl
   .exact h.sep j k y ok z hk u X J tk h1 h2 U
   .have:ok=o:=Option.some.inj (hk.symm.trans W);subst this;rw[ht]at tk;cases tk
  .have:y=o:=Option.some.inj (z.symm.trans W);subst this;rw[ht]at J;cases J
def yU(ops:Array Oper)(m:Nat)(L:Nat->Loc)(D:Nat->Prop)(k:Nat):Prop:=∃(j:Nat)(oj:Oper),ops[j]?=some oj/\D j/\A9 oj.op=true/\m<=nT ops j/\(L j).blk=k
theorem St.aside(W:pi ops (E4 ops.toList []))(h:St ops base w0 V K e0 φ0 H0 ws nt ds m φ L D a w):WR (base.add (yU ops m L D)) w φ (K m).bs w:=by
 have key:∀(j:Nat) z,ops[j]?=some z->D j->A9 z.op=true->m<=nT ops j->(L j).blk<w.heap.size/\∀(b:Nat) B' l',(K m).bs[b]?=some B'->B'.mine=true->φ[b]?=some l'->l'.blk≠(L j).blk:=by
  intro j z I u J y;obtain⟨_,d,X⟩:=W.free j z I (h.high j z I J y u);obtain⟨B,mk,q1,_,_,q4,_,q6⟩:=h.pend j z d I u J y X;exact⟨(q4.lt q1).2,q6⟩
 refine h.wr.raise _ (fun k hk=>?_) (fun b B l U hm hl hq=>?_)
 .obtain⟨j,z,I,u,J,y,rfl⟩:=hk;exact(key j z I u J y).1
 .obtain⟨j,z,I,u,J,y,O⟩:=hq;exact(key j z I u J y).2 b B l U hm hl O.symm
theorem St.turn(h:St ops base w0 V K e0 φ0 H0 ws nt ds m φ L D a w)(hR:Rig P C ops E V K nt)(hφ:φ0.length=H0.bs.length){i:Nat}{o:Oper}(X:ops[i]?=some o)(a5:¬D i)(a1:∀d∈U2 o,D d) (ht:A9 o.op=true) (hn:nT ops i=m) {v':Value} {φ':List Loc} {w':World}
  (hx:Ext φ φ') (J:Le (K m) (K (m+1))) (hv:VR φ' (V i) v') (hW:WR (base.add (yU ops m L D)) w φ' (K (m+1)).bs w') (a7:Fr φ (K m).bs (K (m+1)).low w w'):
  St ops base w0 V K e0 φ0 H0 ws nt ds (m+1) φ' L (fun x=>D x\/x=i) (a.put o.dst v') w':=by
 have hM:=hR.mix;have O:fo a.tmps.size o.dst=true:=by rw[h.tsz];exact(Z7 hR.okn (by simpa using Array.mem_of_getElem? X)).2
 have a4:∀(j:Nat) y(d:Nat),ops[j]?=some y->D j->y.dst=some d->o.dst≠some d:=fun j y d z u W q=>a5 ((hM.dst j i y o d z X W q)▸u);have a8:=ij X ht (Q8 X);have old:∀(j:Nat) y,ops[j]?=some y->(D j\/j=i)->A9 y.op=true->m+1<=nT ops j->D j:=fun j y z u I J=>by
  rcases u with u|rfl
  .exact u
  .omega
 refine⟨fun j y z u d W=>?_,oM,fun j y z I a3=>?_,fun j y z I J u=>h.high j y z I oM (old j y z u I J),h.ext.trans hx,h.le.trans J,hW.lower h.wr.below,?_,by rw[oD];exact h.tsz,by rw[P0];exact h.dfr,fun t q=>?_,fun j y d z u W a3=>?_,fun j y d z u I J W=>?_,fun j k y ok z hk u a6 I tk h1 h2=>h.sep j k y ok z hk (old j y z u I h1) (old k ok hk a6 tk h2) I tk oM oM⟩
 .rcases u with u|rfl
  .exact .inl (h.closed j y z u d W)
  .have:y=o:=Option.some.inj (z.symm.trans X);subst this;exact .inl (a1 d W)
 .by_cases a2:nT ops j<m
  .exact .inl (h.low j y z I a2)
  .exact .inr (sB z X I ht oM)
 .exact Fr.trans h.ext h.le J hφ h.fr a7
 .rw[Y0 a O,if_neg (q i o X (.inr rfl))];exact(h.t0 t fun j y z u=>q j y z (.inl u)).mono hx
 .rcases u with u|rfl
  .rw[Y0 a O,if_neg (a4 j y d z u W)];refine(h.t1 j y d z u W fun I=>?_).mono hx;have:=a3 I;by_cases a2:nT ops j=m
   .exact absurd ((sB z X I ht oM)▸u) a5
   .omega
  .have:y=o:=Option.some.inj (z.symm.trans X);subst this;rw[Y0 a O,if_pos W];exact hv
 .have U:=old j y z u I J;rw[Y0 a O,if_neg (a4 j y d z U W)];obtain⟨B,mk,q1,q2,q3,q4,q5,q6⟩:=h.pend j y d z U I oM W;have hA:yU ops m L D (L j).blk:=⟨j,y,z,U,I,oM,rfl⟩
  refine⟨B,mk,q1,q2,q3,q4.mono hx (hW.below.block _ (.inr hA)),q5,fun b B' l' h1 h2 h3 hq=>?_⟩;exact((hW.blk b B' l' h1 h3).lt h2).1 (.inr (hq▸hA))
theorem St.early(hR:Rig P C ops E V K nt)(h:St ops base w0 V K e0 φ0 H0 ws nt ds m φ L D a w){i:Nat}{o:Oper}(ho:ops[i]?=some o)(b0:¬D i)(a4:∀d∈U2 o,D d) (ht:A9 o.op=true) (hf:az o.op=true) (hn:m<nT ops i) {B:Blk} {mk:Nat->Value} {v':Value} {w1:World} {l:Loc}
  (hm:B.mine=true) (hK:K (nT ops i+1)=(K (nT ops i)).push B) (hV:V i=mk (K (nT ops i)).next) (hl:l.blk=w.heap.size) (a2:But w w1 none) (a5:Bel base.pr w0 w1) (hB:BR base φ B l w1) (b1:∀(k:Nat)(o':Obj),w.heap[k]?=some o'->w1.heap[k]?=some o') (b5:∀(φ2:List Loc)(b:Nat),φ2[b]?=some l->VR φ2 (mk b) v'):
  St ops base w0 V K e0 φ0 H0 ws nt ds m φ (fun x=>if x=i then l else L x) (fun x=>D x\/x=i) (a.put o.dst v') w1:=by
 have hM:=hR.mix;have J:fo a.tmps.size o.dst=true:=by rw[h.tsz];exact(Z7 hR.okn (by simpa using Array.mem_of_getElem? ho)).2
 have a9:∀(j:Nat) y(d:Nat),ops[j]?=some y->D j->y.dst=some d->o.dst≠some d:=fun j y d z u O q=>b0 ((hM.dst j i y o d z ho O q)▸u);have W:∀j,D j->j≠i:=fun j u q=>b0 (q▸u);have b2:∀(j:Nat) y,ops[j]?=some y->D j->A9 y.op=true->m<=nT ops j->(L j).blk<w.heap.size:=fun j y z u X U=>by
  obtain⟨_,d,O⟩:=hM.free j y z (h.high j y z X U u);obtain⟨B2,b3,q1,_,_,q4,_⟩:=h.pend j y d z u X U O;exact(q4.lt q1).2
 refine⟨fun j y z u d O=>?_,h.mle,fun j y z X a1=> .inl (h.low j y z X a1),fun j y z X U u=>?_,h.ext,h.le,h.wr.grow a2 a5,?_,by rw[oD];exact h.tsz,by rw[P0];exact h.dfr,fun t q=>?_,fun j y d z u O a1=>?_,fun j y d z u X U O=>?_,fun j k y ok z hk u I X tk h1 h2 a7=>?_⟩
 .rcases u with u|rfl
  .exact .inl (h.closed j y z u d O)
  .have:y=o:=Option.some.inj (z.symm.trans ho);subst this;exact .inl (a4 d O)
 .rcases u with u|rfl
  .exact h.high j y z X U u
  .have:y=o:=Option.some.inj (z.symm.trans ho);subst this;exact hf
 .intro b B' l' hb a3 a6 a8;have h1:=h.fr b B' l' hb a3 a6 a8;have b4:Fr φ (K m).bs (K m).low w w1:=Fr.of_old h.wr b1;have hs:(K m).bs[b]?=some B':=by rw[h.le.same b hb (gS a3).1];exact a3
  rw[b4 b B' l' hb hs a6 (h.ext b l' a8),h1]
 .rw[Y0 a J,if_neg (q i o ho (.inr rfl))];exact h.t0 t fun j y z u=>q j y z (.inl u)
 .rcases u with u|rfl
  .rw[Y0 a J,if_neg (a9 j y d z u O)];exact h.t1 j y d z u O a1
  .have:y=o:=Option.some.inj (z.symm.trans ho);subst this;have:=a1 ht;omega
 .rcases u with u|rfl
  .rw[Y0 a J,if_neg (a9 j y d z u O)];obtain⟨B2,b3,q1,q2,q3,q4,q5,q6⟩:=h.pend j y d z u X U O;simp only[if_neg (W j u)];exact⟨B2,b3,q1,q2,q3,q4.mono (Ext.refl φ) (a2.2 _ (q4.lt q1).2 sM),q5,q6⟩
  .have:y=o:=Option.some.inj (z.symm.trans ho);subst this;rw[Y0 a J,if_pos O];simp only[if_true];refine⟨B,mk,hm,hK,hV,hB,b5,fun b B' l' h1 h2 h3=>?_⟩;have:=((h.wr.blk b B' l' h1 h3).lt h2).2;omega
 .rcases u with u|rfl
  .rcases I with I|rfl
   .simp only[if_neg (W j u),if_neg (W k I)];exact h.sep j k y ok z hk u I X tk h1 h2 a7
   .simp only[if_neg (W j u),if_true];have:=b2 j y z u X h1;omega
  .rcases I with I|rfl
   .simp only[if_neg (W k I),if_true];have:=b2 k ok hk I tk h2;omega
   .exact absurd rfl a7
theorem St.step(W:Rig P C ops E V K nt)(h0:E 0=e0)(a9:φ0.length=H0.bs.length)(h:St ops base w0 V K e0 φ0 H0 ws nt ds m φ L D a w)(a5:∀(i:Nat) o,ops[i]?=some o->A9 o.op=true->nT ops i=m->¬D i) {i:Nat} {o:Oper} (J:ops[i]?=some o) (I:¬D i) (y:∀d∈U2 o,D d) {Q:Exit->Act->World->Prop}:
  wpOp P ops Q i (fun a' w'=>∃m' φ' L',St ops base w0 V K e0 φ0 H0 ws nt ds m' φ' L' (fun x=>D x\/x=i) a' w') a w:=by
 have hM:=W.mix;have hi:=Q8 J;have d5:=fun cs b=>Region.noSelect_spec hM.sel i o cs b J;have d1:A9 o.op=true->m<=nT ops i:=fun O=>by
  apply Classical.byContradiction;intro b0;exact I (h.low i o J O oM)
 have a7:A9 o.op=true->az o.op=false->nT ops i=m:=fun O hf=>by
  apply Classical.byContradiction;intro f4;have:=d1 O;obtain⟨k,ok,e5,hk,tk,f1⟩:=JA (ops:=ops) i m oM;exact a5 k ok hk tk f1 (hM.done h.closed i k o J (Q8 hk) y (hM.ord i k o ok J hk e5 O hf tk))
 obtain⟨e1,a1,hE,b1,a4,f2,e6,f3⟩:=Km (P:=P) (ops:=ops) (o:=o) (Ei:=E i) d5 h.tsz (h.reads W h0 J I y a7);have a6:=(Z7 W.okn (by simpa using Array.mem_of_getElem? J)).1;have c5:Region.wanted o (yielded ops a.tmps)=E0 ops (E i) o:=by rw[<-f3,<-f2,hE.wanted ops o (V6 W.okn) (by rw[e6];exact W.tr.nl i o hi J)]
 unfold wpOp;simp only[J];rw[c5];cases hw:E0 ops (E i) o with
 |true=>
  rw[if_pos rfl]
  left
  cases O:A9 o.op with
  |false=>
   have hc:isCall o.op=false:=by
    cases hc:isCall o.op with
    |false=>rfl
    |true=>
     unfold isCall at hc;split at hc
     .rename_i e3;rw[e3]at O;cases O
     .cases hc
   have U:aop P noC o.op (E i) (K m)=some (V i,none):=by
    cases d4:rdK o.op with
    |false=>exact W.tr.flat i o hi J hw O d4 _
    |true=>
     refine W.tr.pure i o hi J hw O d4 m h.mle ?_ ?_
     .apply Classical.byContradiction;intro b0;obtain⟨c,oc,a3,b7,b8,b9⟩:=Gc (ops:=ops) (A:=E4 ops.toList []) (i:=i) (j:=m) oM;exact a5 c oc a3 b7 b8 (hM.done h.closed i c o J (Q8 a3) y b9)
     .apply Classical.byContradiction;intro b0;obtain⟨c,oc,a3,b7,b8,b9⟩:=MJ (ops:=ops) (A:=E4 ops.toList []) (i:=i) (j:=m) oM h.mle;have d7:=h.low c oc a3 b7 b8;exact I (hM.done h.closed c i oc a3 hi (h.closed c oc a3 d7) b9)
   rw[<-b1]at U;obtain⟨v',hv,z⟩:=gT h.wr hE a6 hc U;unfold Oper.wp;rw[<-a4,z w h.wr.cls,Oper.upon_value];exact⟨m,φ,L,h.pure W J I y O hv⟩
  |true=>
   obtain⟨r,U,a2⟩:=W.tr.turn i o hi J hw O;rw[<-b1]at U;by_cases hn:nT ops i=m
   .rw[hn]at U a2;have hA:=h.aside hM;cases hc:isCall o.op with
    |false=>
     cases r with
     |none=>
      have u:K (m+1)=K m:=a2;obtain⟨v',hv,z⟩:=gT hA hE a6 hc U;unfold Oper.wp;rw[<-a4,z w hA.cls,Oper.upon_value];exact⟨m+1,φ,L,h.turn W a9 J I y O hn (Ext.refl φ) (by rw[u];exact Le.refl _) hv (by rw[u];exact hA) (by rw[u];exact jo _)⟩
     |some H2=>
      have u:K (m+1)=H2:=a2;obtain⟨v',w',φ',z,hx,hv,b5,c3⟩:=sD hA hE a6 hc U;have c7:=h.turn W a9 J I y O hn hx (by rw[u];exact kU hc U) hv (by rw[u];exact b5) (by rw[u];exact c3);unfold Oper.wp;rw[<-a4];rcases z with z|⟨z,rfl⟩
      .rw[z,Oper.upon_value];exact⟨m+1,φ',L,c7⟩
      .rw[z,Oper.upon_skip];exact⟨m+1,φ',L,c7⟩
    |true=>
     obtain⟨c,f,g,first,c6,d2,b2,hf,c0⟩:=Y2 hc U;obtain⟨d6,b4,e4,b6⟩:=gL hE a6 d2 b2 hf;obtain⟨e2,e7,f0,c4⟩:=W.okc (base.add (yU ops m L D)) w _ _ _ _ _ c0;have d0:=c4 φ w _ b6 hA;unfold Oper.wp;rw[<-a4,ci b2 (ty:=o.type) e4 e2 d2,Oper.upon_enter];simp only[Array.toArray_toList]at d0;refine d0.mono fun en w' a8=>?_;cases r with
     |none=>
      have u:K (m+1)=K m:=a2;obtain⟨rfl,b3⟩:=a8;exact⟨m+1,φ,L,h.turn W a9 J I y O hn (Ext.refl φ) (by rw[u];exact Le.refl _) (VR.na (f0 rfl)) (by rw[u];exact b3.wr) (by rw[u];exact fun b B l _ hB hd hl=>b3.same b B l hB hd hl)⟩
     |some H2=>
      have u:K (m+1)=H2:=a2;obtain⟨v',φ',rfl,hx,hv,b5,c3⟩:=a8;exact⟨m+1,φ',L,h.turn W a9 J I y O hn hx (by rw[u];exact e7 H2 rfl) hv (by rw[u];exact b5) (by rw[u];exact c3)⟩
   .have b0:m<nT ops i:=oN (d1 O);have hf:az o.op=true:=by
     cases hf:az o.op with
     |true=>rfl
     |false=>exact absurd (a7 O hf) hn
    obtain⟨B,mk,v',w1,l,e8,hr,hv,z,hl,c9,c8,hB,d3,e9⟩:=xh h.wr hE a6 hf U;subst hr;unfold Oper.wp;rw[<-a4,z,Oper.upon_value];exact⟨m,φ,_,h.early W J I y O hf b0 e8 a2 hv hl c9 c8 hB d3 e9⟩
 |false=>
  rw[if_neg Bool.false_ne_true];obtain⟨hV,d9⟩:=W.tr.off i o hi J hw;have hv:VR φ (V i) undef:=by rw[hV];exact VR.undef' φ
  cases O:A9 o.op with
  |false=>exact⟨m,φ,L,h.pure W J I y O hv⟩
  |true=>
   have hf:az o.op=false:=by
    cases hf:az o.op with
    |false=>rfl
    |true=>
     have:=(hM.free i o J hf).1;unfold E0 at hw;rw[this]at hw;cases hw
   have hn:=a7 O hf;have X:=d9 O;rw[hn]at X;exact⟨m+1,φ,L,h.turn W a9 J I y O hn (Ext.refl φ) (by rw[X];exact Le.refl _) hv (by rw[X];exact h.aside hM) (by rw[X];exact jo _)⟩
theorem St.done(U:Rig P C ops E V K nt)(W:E 0=e0)(h:St ops base w0 V K e0 φ0 H0 ws nt ds m φ L D a w)(I:∀(i:Nat) o,ops[i]?=some o->A9 o.op=true->nT ops i=m->¬D i) (y:∀i,i<ops.size->D i):
  Ext φ0 φ/\ER φ nt (E ops.size) a/\WR base w0 φ (K (nT ops ops.size)).bs w/\Fr φ0 H0.bs (K (nT ops ops.size)).low ws w/\a.defers=ds:=by
 have O:m=nT ops ops.size:=by
  apply Classical.byContradiction;intro a1;obtain⟨i,o,X,ho,ht,hn⟩:=JA (ops:=ops) ops.size m (oN (h.mle));exact I i o ho ht hn (y i X)
 subst O;refine⟨h.ext,⟨h.tsz,fun t=>?_⟩,h.wr,h.fr,h.dfr⟩;by_cases z:∃(k:Nat)(ok:Oper),ops[k]?=some ok/\ok.dst=some t
 .obtain⟨k,ok,u,J⟩:=z;rw[Jc U ops.size k ok t (Q8 u) lR u J];exact h.t1 k ok t u (y k (Q8 u)) J fun tk=>ij u tk (Q8 u)
 .rw[vT U ops.size t lR (fun k ok _ u J=>z ⟨k,ok,u,J⟩),W];exact h.t0 t fun k ok u _ J=>z ⟨k,ok,u,J⟩
theorem kJ{α:Type}{p q:α->Bool}:∀{l:List α},(∀x∈l,p x=true->q x=true)->(∃x∈l,q x=true/\p x=false)->l.countP p<l.countP q
 |[],_,h=>by obtain⟨x,O,_⟩:=h;simp at O
 |a::l,h,u=>by
  have I:∀l:List α,(∀x∈l,p x=true->q x=true)->l.countP p<=l.countP q:=fun l h=>List.countP_mono_left fun x u z=>h x u z;rw[List.countP_cons,List.countP_cons];have O:=I l fun x u=>h x (List.mem_cons_of_mem _ u);obtain⟨x,y,U,z⟩:=u;rcases List.mem_cons.1 y with rfl|y
  .rw[U,z];simp;omega
  .have W:=kJ (l:=l) (fun x u=>h x (List.mem_cons_of_mem _ u)) ⟨x,y,U,z⟩;have X:(if p a=true then 1 else 0)<=(if q a=true then 1 else 0):=by
    cases J:p a with
    |false=>simp
    |true=>rw[h a sM J];simp
   omega
def nM(ops:Array Oper)(listed:Array Bool):Nat:=(List.range ops.size).countP fun i=> !listed.getD i false
theorem JR(hR:Rig P C ops E V K nt)(h0:E 0=e0)(a8:φ0.length=H0.bs.length){Q:Exit->Act->World->Prop}
  (hQ:∀φ a w,Ext φ0 φ->ER φ nt (E ops.size) a->WR base w0 φ (K (nT ops ops.size)).bs w->Fr φ0 H0.bs (K (nT ops ops.size)).low ws w->a.defers=ds->Q .normal a w):
  ∀(z:Nat)(u:Array Bool)(a:Act)(w:World),u.size=ops.size->nM ops u<=z->(∃m φ L,St ops base w0 V K e0 φ0 H0 ws nt ds m φ L (fun i=>u.getD i false=true) a w)->wpAny P .any ops Q z u a w:=by
 have hM:=hR.mix;have a9:∀(u:Array Bool)(i:Nat)(o:Oper),u.size=ops.size->ops[i]?=some o->u.getD i false=false->(∀d∈U2 o,u.getD d false=true)->i∈Region.ready .any ops u:=by
  intro u i o hs I hf hd;refine mem_ready.2 ⟨?_,o,I,fun e he hb=>hd e.on ?_⟩
  .have:i<u.size:=by rw[hs];exact Q8 I
   simp only[Array.getD_eq_getD_getElem?,Array.getElem?_eq_getElem this,Option.getD_some]at hf ⊢;exact hf
  .unfold U2;exact List.mem_map.2 ⟨e,List.mem_filter.2 ⟨by simpa using he,hb⟩,rfl⟩
 have b0:∀(u:Array Bool),u.size=ops.size->Region.ready .any ops u=[]->∀i,i<ops.size->u.getD i false=true:=by
  intro u hs hr i;induction i using Nat.strongRecOn with
  |ind i ih=>
   intro hi;apply Classical.byContradiction;intro hn;have I:ops[i]?=some ops[i]:=Array.getElem?_eq_getElem hi;have:=a9 u i _ hs I (by simpa using hn) fun d hd=>by
    have a3:=hM.back i _ I d hd;exact ih d a3 oM
   rw[hr]at this;cases this
 intro z;induction z with
 |zero=>
  intro u a w hs a6 ⟨m,φ,L,h⟩;obtain⟨m',φ',h',y⟩:=h.norm hM (nT ops ops.size-m) m φ (oN (h.mle));have U:∀i,i<ops.size->u.getD i false=true:=by
   intro i hi;have O:nM ops u=0:=oM;unfold nM at O;rw[List.countP_eq_zero]at O
   simpa using O i (List.mem_range.2 hi)
  obtain⟨q1,q2,q3,q4,q5⟩:=h'.done hR h0 y U;refine⟨?_,hQ φ' a w q1 q2 q3 q4 q5⟩;apply List.eq_nil_iff_forall_not_mem.2;intro i hi;obtain⟨O,o,I,_⟩:=mem_ready.1 hi;have:=U i (Q8 I);have J:i<u.size:=by rw[hs];exact Q8 I
  simp only[Array.getD_eq_getD_getElem?,Array.getElem?_eq_getElem J,Option.getD_some]at O this;rw[O]at this;cases this
 |succ z ih=>
  intro u a w hs a6 ⟨m,φ,L,h⟩;obtain⟨m',φ',h',y⟩:=h.norm hM (nT ops ops.size-m) m φ (oN (h.mle));refine⟨fun hr=>?_,fun i hi=>?_⟩
  .obtain⟨q1,q2,q3,q4,q5⟩:=h'.done hR h0 y (b0 u hs hr);exact hQ φ' a w q1 q2 q3 q4 q5
  .obtain⟨O,o,I,hd⟩:=mem_ready.1 hi;have J:i<u.size:=by rw[hs];exact Q8 I
   have a1:u.getD i false=false:=by
    simp only[Array.getD_eq_getD_getElem?,Array.getElem?_eq_getElem J,Option.getD_some]at O ⊢;exact O
   have X:∀d∈U2 o,u.getD d false=true:=fun d a2=>by
    unfold U2 at a2;obtain⟨e,he,rfl⟩:=List.mem_map.1 a2;obtain⟨a4,a5⟩:=List.mem_filter.1 he;exact hd e (by simpa using a4) a5
   have W:∀x,(u.setIfInBounds i true).getD x false=true↔(u.getD x false=true\/x=i):=fun x=>by
    by_cases hx:x=i
    .subst hx;simp [J]
    .rw[getD_set_ne false (fun q=>hx q.symm)];simp [hx]
   refine wpOp_mono (fun a' w' a7=>ih _ a' w' (by simp [hs]) ?_ ?_) (h'.step hR h0 a8 y I (by rw[a1];exact Bool.false_ne_true) X)
   .have:nM ops (u.setIfInBounds i true)<nM ops u:=by
     unfold nM;refine kJ (fun x _ hx=>?_) ⟨i,List.mem_range.2 (Q8 I),by simp [a1],by simp [J]⟩;simp only[Bool.not_eq_true']at hx ⊢;cases hq:u.getD x false with
     |false=>rfl
     |true=>rw[(W x).2 (.inl hq)]at hx;cases hx
    omega
   .obtain⟨m2,φ2,L2,h2⟩:=a7;have:(fun x=>u.getD x false=true\/x=i)=fun x=>(u.setIfInBounds i true).getD x false=true:=by
     funext x;exact propext (W x).symm
    rw[this]at h2;exact⟨m2,φ2,L2,h2⟩
end
theorem zE{C:A8}(hC:X8 P C){ops:Array Oper}(O:fw nt ops=true)(a2:kX ops (E4 ops.toList [])=true){Q:Exit->Act->World->Prop}{e e':Env}{H H':d8}
  (h:I7 P C ops 0 [] [] (jw ops) e H=some (e',H')) (hE:ER φ nt e a) (hW:WR base w0 φ H.bs w) (hp:hU base w0 φ H w nt a.defers e' H' (Q .normal)):wpAny P .any ops Q ops.size (Array.replicate ops.size false) a {w with drawn:=w.drawn+1}:=by
 have hM:=Rm a2;have I:Cls base w0 φ H.bs w {w with drawn:=w.drawn+1}:=⟨hW.same_heap rfl rfl rfl rfl,fun _ _ _ _ _ _=>rfl⟩
 obtain⟨E,V,K,hT,U,X,W,a1⟩:=BI hM ops.size 0 0 [] [] (fun _=>e) (fun _=>undef) (fun _=>H) oM rfl
  ⟨fun i o J=>oM,fun i o J=>oM,fun i o J=>oM,fun i o J=>oM,fun i o J=>oM,fun i o J=>oM⟩ (fun j hj=>by rw[zF]at hj;omega) (fun x o hx=>oM) (by simpa using h)
 have hR:Rig P C ops E V K nt:=⟨hM,hT,hC,O⟩
 refine JR (base:=base) (w0:=w0) (φ0:=φ) (H0:=H) (ws:=w) (ds:=a.defers) (e0:=e) hR U hW.len.symm.symm (fun φ' a' w' h1 h2 h3 h4 h5=>?_) ops.size _ a _ sM ?_ ⟨0,φ,fun _=>⟨0,0,0,0⟩,?_⟩
 .rw[W]at h2;rw[a1]at h3 h4;exact hp φ' a' w' h1 h2 h3 h4 h5
 .unfold nM;refine Nat.le_trans List.countP_le_length sM
 .have y:∀i,¬((Array.replicate ops.size false).getD i false=true):=fun i=>by
   simp only[Array.getD_eq_getD_getElem?,Array.getElem?_replicate];split<;>simp
  have u:K 0=H:=X;refine⟨fun i o _ z=>absurd z (y i),Nat.zero_le _,fun i o _ _ a3=>oM,fun i o _ _ _ z=>absurd z (y i),Ext.refl φ,by rw[u];exact Le.refl _,by rw[u];exact I.wr,by rw[u];exact fun b B l _ hB hd hl=>I.same b B l hB hd hl,hE.size,rfl,fun t _=>hE.val t,fun i o d _ z=>absurd z (y i),fun i o d _ z=>absurd z (y i),fun i j oi oj _ _ z=>absurd z (y i)⟩
theorem BH{C:A8}(O:P.follows .mixedOrders=true)(z:X8 P C){ops:Array Oper}(u:fw nt ops=true)(y:kX ops (E4 ops.toList [])=true){Q:Exit->Act->World->Prop}{e e':Env}{H H':d8}(id:Nat)
  (h:I7 P C ops 0 [] [] (jw ops) e H=some (e',H')) (I:ER φ nt e a) (J:WR base w0 φ H.bs w) (U:hU base w0 φ H w nt a.defers e' H' (Q .normal)):(Code.region id ops true).wp P Q a w:=
 wp_region_any O (zE z u y h I J U)
end
end Go.Proofs.YtofbhlhamfkljaaGreatDoor.Ve
