/- A part of the claim: the evaluator and the contracts. Conditions: none here. -/
import Derived.KernelRfl
import Derived.WalkKit
import Derived.Below
import Derived.Deep.Quiet
import Derived.StillTail
import Derived.Laws.StructEq
import Derived.Laws.Tables
import Derived.Scope
import Derived.LoopN
set_option linter.unusedVariables false
set_option linter.unusedSimpArgs false
set_option linter.defProp false
set_option maxHeartbeats 0
set_option maxRecDepth 1000000
namespace Go.Proofs.YtofbhlhamfkljaaGreatDoor.Ve
open Go
universe uA
theorem rT{A:Sort uA}{a:A}:a=a:=Eq.trans rfl rfl
theorem aI{a b:Prop}(h:a)(k:b):a/\b:=⟨h,k⟩
abbrev LV:=List Value
abbrev eB:ByteArray:=ByteArray.empty
abbrev nS:Value:= .slice none 0 0
abbrev iV(n:Int):Value:= .int .i64 n
abbrev pT(b:Nat):Value:= .pointer (some ⟨b,0,none⟩)
theorem oM{p:Prop}(h:p:=by omega):p:=h
theorem kR{p:Prop}(h:p:=by kernel_rfl):p:=h
theorem lR{n:Nat}:n<=n:=Nat.le_refl n
theorem iF{A B:Type}{p:A->B->Prop}:∀a b,p a b->p a b:=fun _ _ h=>h
theorem dT{p:Prop}[Decidable p](h:decide p=true):p:=of_decide_eq_true h
theorem dF{p:Prop}[Decidable p](h:decide p=false):¬p:=of_decide_eq_false h
theorem dN{A:Type}{l:List A}{i:Nat}(h:l.length<=i):l.drop i=[]:=List.drop_eq_nil_of_le h
theorem tN(i:Nat):(i:Int).toNat=i:=Int.toNat_natCast i
theorem eX{A:Sort uA}{a:A}:∃x,x=a:=⟨_,rfl⟩
theorem eY{A:Sort uA}(a:A):∃x,x=a:=⟨_,rfl⟩
theorem bF:((false=true)=False)/\∀{A:Type}{_:Decidable False}(a b:A),ite False a b=b:=⟨Bool.false_eq_true,if_false⟩
theorem sM{p:Prop}(h:p:=by simp):p:=h
abbrev sP(b:Nat):Option Addr:=some ⟨b,0,none⟩
abbrev oC:Value->Bool:=Value.oneCell'
theorem gS{A:Type uA}{l:List A}{i:Nat}{a:A}(h:l[i]?=some a):∃h:i<l.length,l[i]=a:=List.getElem?_eq_some_iff.1 h
theorem gA{A:Type uA}{l:Array A}{i:Nat}{a:A}(h:l[i]?=some a):∃h:i<l.size,l[i]=a:=Array.getElem?_eq_some_iff.1 h
theorem mG{A:Type uA}{l:List A}{i:Nat}{a:A}(h:l[i]?=some a):a∈l:=List.mem_of_getElem? h
theorem oN{q p:Prop}(a:q)(h:q->p:=by intro a;omega):p:=h a
inductive Blk where
 |cells (c:LV) (own:Bool) (sz:Nat)
 |dead
 |map (es:List (Value×Value))
 |iter (s:ByteArray) (pos:Nat)
 deriving Inhabited
structure N7 where
 bs:List Blk
 low:Nat
def N7.get(H:N7)(b:Nat):Option Blk:=H.bs[b]?
def N7.next(H:N7):Nat:=H.bs.length
def N7.push(H:N7)(x:Blk):N7:=⟨H.bs++[x],H.low⟩
def N7.put(H:N7)(b:Nat)(x:Blk):N7:=⟨H.bs.set b x,min H.low b⟩
abbrev Env:=List (Nat×Value)
def Env.get:Env->Nat->Value
 |[],_=>undef
 |(k,v)::e,t=>if k=t then v else Env.get e t
def na0:Value->Bool
 | .bool _| .int _ _| .string _| .pointer none| .slice none 0 0| .map none| .nilFunc| .nilIface=>true
 | .func (.func _) f c=>f.isEmpty&&c.isEmpty
 |_=>false
def na1:Value->Bool
 | .agg cs=>cs.toList.all na0
 | .iface _ v=>na0 v
 |v=>na0 v
def L9:Value->Bool
 | .tuple vs=>vs.toList.all na1
 |v=>na1 v
section
variable(P:Program)
def D8(t:TypeId):Option Nat:=(P.info? t).map (·.size)
def V0(t:TypeId):Option Nat:=(P.info? t).map (·.bytes)
def iP(t:TypeId):Option Value:=
 match(P.info? t).bind (·.zero)with
 |some z=>if na1 z then some z else none
 |none=>none
def O9(t:TypeId):Option (LV):=
 match(P.info? t).bind (·.zero)with
 |some z=>if z.cells.toList.all na0&&(D8 P t==some z.cells.size) then some z.cells.toList else none
 |none=>none
def bT(t:TypeId):Option Bool:=
 match P.underlying t with
 |some (.struct _)|some (.array _ _)=>some true
 |some _=>some false
 |none=>none
def vI(t:TypeId):Bool:=
 match P.underlying t with
 |some .bool=>true
 |_=>false
def I5(t:TypeId):Option TypeId:=
 match P.underlying t with
 |some (.slice e)=>some e
 |_=>none
def vK(t:TypeId):Option (TypeId×TypeId):=
 match P.underlying t with
 |some (.map k e)=>some (k,e)
 |_=>none
def sT(t:TypeId)(i:Nat):Option (Nat×TypeId):=
 match P.underlying t with
 |some (.struct fs)=>(fs[i]?).map fun f=>(f.offset,f.type)
 |_=>none
def FU(t:TypeId):Option (List (Nat×Nat)⊕Nat):=
 match P.underlying t with
 |some (.struct fs)=>(fs.toList.mapM fun f=>(D8 P f.type).map fun s=>(f.offset,s)).map .inl
 |some (.array _ e)=>(D8 P e).map .inr
 |_=>none
inductive Q5 where
 |bool|int|str
 deriving DecidableEq
def iz(tf:TypeId->Option (List Q5)):List Field->Nat->Option (List Q5)
 |[],_=>some []
 |f::fs,n=>
  if f.name≠ "_" /\f.offset=n then
   match tf f.type with
   |some m=>if D8 P f.type=some m.length then(iz tf fs (n+m.length)).map (m++ ·) else none
   |none=>none
  else none
def X7:Nat->TypeId->Option (List Q5)
 |0,_=>none
 |d+1,t=>
  match P.underlying t with
  |some .bool=>some [.bool]
  |some (.int _)=>some [.int]
  |some .string=>some [.str]
  |some (.struct fs)=>if P.stoodInHeld t then none else iz P (X7 d) fs.toList 0
  |_=>none
def vJ(t:TypeId):Option (List Q5):=if P.eqGuardType P.depth t then none else X7 P 9 t
def oW(t:TypeId):Option (List Q5):=if bT P t==some true then vJ P t else none
end
def N6:Q5->Value->Value->Option Bool
 | .bool,.bool a,.bool b=>some (a==b)
 | .int,.int k a,.int k' b=>if k=k' then some (a==b) else none
 | .str,.string a,.string b=>some (a==b)
 |_,_,_=>none
def A6:List Q5->LV->LV->Option Bool
 |[],[],[]=>some true
 |k::ks,x::xs,y::ys=>
  match N6 k x y,A6 ks xs ys with
  |some a,some b=>some (a&&b)
  |_,_=>none
 |_,_,_=>none
def eqA(P:Program)(t:TypeId):Value->Value->Option Bool
 | .bool a,.bool b=>if vI P t then some (a==b) else none
 | .int k a,.int k' b=>if k=k' then some (a==b) else none
 | .string a,.string b=>some (a==b)
 | .pointer none,.pointer b=>match P.underlying t with|some (.pointer _)=>some b.isNone|_=>none
 | .pointer (some _),.pointer none=>match P.underlying t with|some (.pointer _)=>some false|_=>none
 | .slice none _ _,.slice b _ _=>if(I5 P t).isSome then some b.isNone else none
 | .slice (some _) _ _,.slice none _ _=>if(I5 P t).isSome then some false else none
 | .agg xs,.agg ys=>match oW P t with|some ks=>A6 ks xs.toList ys.toList|none=>none
 |_,_=>none
def splice:LV->Nat->LV->LV
 |c,_,[]=>c
 |c,o,x::xs=>splice (c.set o x) (o+1) xs
def ld(P:Program)(t:TypeId)(H:N7):Value->Option Value
 | .pointer (some ⟨b,o,none⟩)=>
  match H.get b with
  |some (.cells c _ _)=>
   match bT P t with
   |some true=>
    match D8 P t with
    |some s=>if o+s<=c.length then some (.agg ((c.drop o).take s).toArray) else none
    |none=>none
   |some false=>c[o]?
   |none=>none
  |_=>none
 |_=>none
def sto(P:Program)(t:TypeId)(H:N7)(a x:Value):Option N7:=
 match a with
 | .pointer (some ⟨b,o,none⟩)=>
  match H.get b with
  |some (.cells c true sz)=>
   if D8 P t=some x.cells.toList.length/\o+x.cells.toList.length<=c.length/\x.cells.toList.all Value.oneCell'=true then
    some (H.put b (.cells (splice c o x.cells.toList) true sz))
   else none
  |_=>none
 |_=>none
def T4(place:Nat->Option (Nat×Nat)):LV->List (Nat×Value)->Option (LV)
 |cells,[]=>some cells
 |cells,(i,v)::rest=>
  match place i with
  |none=>none
  |some (off,size)=>
   if v.cells.toList.length≠size\/off+size>cells.length\/v.cells.toList.all Value.oneCell'=false then none
   else T4 place (splice cells off v.cells.toList) rest
def mE(P:Program)(t:TypeId)(parts:List (Nat×Value)):Option Value:=
 match O9 P t,FU P t with
 |some z,some (.inl ps)=>(T4 (fun i=>ps[i]?) z parts).map fun l=> .agg l.toArray
 |some z,some (.inr s)=>(T4 (fun i=>some (i*s,s)) z parts).map fun l=> .agg l.toArray
 |_,_=>none
def Q7(P:Program)(H:N7)(t:TypeId)(len:Nat)(parts:List (Nat×Value)):Option (Value×N7):=
 match I5 P t with
 |some e=>
  match O9 P e with
  |some z=>
   if z.length=0\/len*z.length>16777216\/(parts.all fun p=>p.2.cells.toList.all Value.oneCell')=false then none else
   match T4 (fun i=>some (i*z.length,z.length)) (List.replicate len z).flatten parts with
   |some cs=>some (.slice (some ⟨H.next,0,none⟩) len len,H.push (.cells cs true z.length))
   |none=>none
  |none=>none
 |none=>none
def N0(P:Program)(H:N7)(t:TypeId)(l c:Value):Option (Value×N7):=
 match I5 P t,l,c with
 |some e,.int _ n,.int _ m=>
  match O9 P e,V0 P e with
  |some z,some by'=>
   if z.length≠0/\0<=n/\n<=m/\m<=9223372036854775807/\(by':Int)*m<=281474976710656 then
    some (.slice (some ⟨H.next,0,none⟩) n.toNat (n.toNat+1),H.push (.cells (List.replicate n.toNat z).flatten true z.length))
   else none
  |_,_=>none
 |_,_,_=>none
def A5(H:N7)(size:Nat):Value->Option (LV)
 | .slice none 0 _=>some []
 | .slice (some ⟨b,o,none⟩) n _=>
  if n=0 then some [] else
  match H.get b with
  |some (.cells cs _ _)=>if o+n*size<=cs.length then some ((cs.drop o).take (n*size)) else none
  |_=>none
 |_=>none
def S0(b:UInt8):Value:= .int .u8 b.toNat
def dd:Value->Option UInt8
 | .int .u8 n=>some (UInt8.ofNat n.toNat)
 |_=>none
def aY(P:Program)(H:N7)(size:Nat)(xType:Option TypeId)(x:Value):Option (Nat×LV):=
 match xType.bind P.underlying,x with
 |some (.slice _),.slice a n c=>(A5 H size (.slice a n c)).map fun l=>(n,l)
 |some .string,.string s=>if size=1 then some (s.size,s.data.toList.map S0) else none
 |_,_=>none
def C2(P:Program)(H:N7)(ts:List TypeId)(s x:Value):Option (Value×Option N7):=
 match ts.head?.bind (I5 P)with
 |none=>none
 |some e=>
  match D8 P e,V0 P e,O9 P e with
  |some size,some by',some _=>
   if size=0\/by'=0 then none else
   match aY P H size (ts[1]?) x with
   |none=>none
   |some (n,xs)=>
    match s with
    | .slice none 0 0=>
     if n=0 then some (s,none)
     else if n*by'<=140737488355328 then some (.slice (some ⟨H.next,0,none⟩) n (n+1),some (H.push (.cells xs true size)))
     else none
    | .slice (some ⟨b,o,none⟩) len c=>
     if n=0 then some (s,none)
     else if(len+n)*by'<=140737488355328 then
      match H.get b with
      |some (.cells cs own sz)=>
       if o+len*size<=cs.length/\sz=size then
        if c=len then some (.slice (some ⟨H.next,0,none⟩) (len+n) (len+n+1),some (H.push (.cells ((cs.drop o).take (len*size)++xs) true size)))
        else if own then some (.slice (some ⟨H.next,0,none⟩) (len+n) (len+n+1),some ((H.put b .dead).push (.cells ((cs.drop o).take (len*size)++xs) true size)))
        else none
       else none
      |_=>none
     else none
    |_=>none
  |_,_,_=>none
def kI(P:Program)(H:N7)(ts:List TypeId)(d s:Value):Option (Value×Option N7):=
 match ts.head?.bind (I5 P)with
 |none=>none
 |some e=>
  match D8 P e,d with
  |some size,.slice da dn _=>
   if size=0 then none else
   match s with
   | .slice sa sn sc=>
    match A5 H size (.slice sa sn sc)with
    |some ys=>
     if min sn dn=0 then some (goInt 0,none) else
     match da with
     |some ⟨b,o,none⟩=>
      match H.get b with
      |some (.cells cs true sz)=>if o+(min sn dn)*size<=cs.length then some (goInt (min sn dn:Nat),some (H.put b (.cells (splice cs o (ys.take (min sn dn*size))) true sz))) else none
      |_=>none
     |_=>none
    |none=>none
   |_=>none
  |_,_=>none
def bnd:Option Value->Nat->Option Nat
 |none,d=>some d
 |some (.int _ i),_=>if 0<=i then some i.toNat else none
 |_,_=>none
def CA(H:N7)(b:Nat):Option Nat:=
 match H.get b with
 |some (.cells _ _ sz)=>some sz
 |_=>none
def aH(P:Program)(H:N7)(t:TypeId)(x:Value)(lo hi mx:Option Value):Option Value:=
 match P.underlying t,x with
 |some .string,.string s=>
  match bnd lo 0,bnd hi s.size,mx with
  |some l,some h,none=>if l<=h/\h<=s.size then some (.string (s.extract l h)) else none
  |_,_,_=>none
 |some (.slice e),.slice a n c=>
  match D8 P e,bnd lo 0,bnd hi n with
  |some size,some l,some h=>
   if size=0 then none else
   if l<=h/\h<=n then
    match mx with
    |none=>
     match a with
     |none=>some (.slice none 0 0)
     |some ⟨b,o,none⟩=>
      if n=0 then some (.slice (some ⟨b,o,none⟩) 0 c) else
      if CA H b≠some size then none else
      if c=n then(if h=n then some (.slice (some ⟨b,o+l*size,none⟩) (h-l) (h-l)) else none)
      else some (.slice (some ⟨b,o+l*size,none⟩) (h-l) (h-l+1))
     |_=>none
    |some m=>
     if bnd (some m) 0=some h/\hi.isSome=true then
      match a with
      |none=>some (.slice none 0 0)
      |some ⟨b,o,none⟩=>some (.slice (some ⟨b,o+l*size,none⟩) (h-l) (h-l))
      |_=>none
     else none
   else none
  |_,_,_=>none
 |_,_=>none
def U5(P:Program)(t:TypeId)(x ix:Value):Option Value:=
 match P.underlying t,x,ix with
 |some (.slice e),.slice (some ⟨b,o,none⟩) n _,.int _ i=>
  match D8 P e with
  |some size=>if 0<=i/\i<n then some (.pointer (some ⟨b,o+i.toNat*size,none⟩)) else none
  |none=>none
 |some (.array n e),.pointer (some ⟨b,o,none⟩),.int _ i=>
  match D8 P e with
  |some size=>if 0<=i/\i<n then some (.pointer (some ⟨b,o+i.toNat*size,none⟩)) else none
  |none=>none
 |_,_,_=>none
def ik(P:Program)(t:TypeId)(cs:LV)(off:Nat):Option Value:=
 match bT P t,D8 P t with
 |some true,some s=>some (.agg ((cs.drop off).take s).toArray)
 |some false,_=>cs[off]?
 |_,_=>none
def fY(P:Program)(t:TypeId)(x ix:Value):Option Value:=
 match P.underlying t,x,ix with
 |some (.array n e),.agg cs,.int _ i=>
  match D8 P e with
  |some size=>if 0<=i/\i<n then ik P e cs.toList (i.toNat*size) else none
  |none=>none
 |some .string,.string s,.int _ i=>if 0<=i/\i<s.size then some (.int .u8 (s.data.toList.getD i.toNat 0).toNat) else none
 |_,_,_=>none
def oI(P:Program)(t:TypeId)(x:Value)(i:Nat):Option Value:=
 match sT P t i,x with
 |some (off,ft),.agg cs=>ik P ft cs.toList off
 |_,_=>none
def bf(P:Program)(t:TypeId)(x:Value)(i:Nat):Option Value:=
 match sT P t i,x with
 |some (off,ft),.pointer (some ⟨b,o,none⟩)=>
  match D8 P ft with
  |some s=>if s=0 then none else some (.pointer (some ⟨b,o+off,none⟩))
  |none=>none
 |_,_=>none
def uK(P:Program)(kt:TypeId)(x y:Value):Option Bool:=
 match vJ P kt,bT P kt with
 |some ks,some true=>match x,y with
  | .agg a,.agg b=>A6 ks a.toList b.toList
  |_,_=>none
 |some [k],some false=>N6 k x y
 |_,_=>none
def kM(P:Program)(kt:TypeId)(k:Value):List (Value×Value)->Nat->Option (Option (Nat×Value))
 |[],_=>some none
 |(k',v)::es,i=>
  match uK P kt k k' with
  |some true=>some (some (i,v))
  |some false=>kM P kt k es (i+1)
  |none=>none
def nJ:Q5->Value->Bool
 | .bool,.bool _| .int,.int _ _| .str,.string _=>true
 |_,_=>false
def X3:List Q5->LV->Bool
 |[],[]=>true
 |k::ks,x::xs=>nJ k x&&X3 ks xs
 |_,_=>false
def R2(P:Program)(kt:TypeId)(k:Value):Bool:=
 match vJ P kt,bT P kt,k with
 |some ks,some true,.agg cs=>X3 ks cs.toList
 |some ks,some false,v=>X3 ks [v]
 |_,_,_=>false
def gQ(P:Program)(H:N7)(t:TypeId)(m k:Value)(ok:Bool):Option Value:=
 match vK P t with
 |some (kt,et)=>
  if R2 P kt k then
   match m with
   | .map (some b)=>
    match H.get b with
    |some (.map es)=>
     match kM P kt k es 0,iP P et with
     |some (some (_,v)),some _=>some (if ok then .tuple #[v,.bool true] else v)
     |some none,some z=>some (if ok then .tuple #[z,.bool false] else z)
     |_,_=>none
    |_=>none
   | .map none=>(iP P et).map fun z=>if ok then .tuple #[z,.bool false] else z
   |_=>none
  else none
 |none=>none
def Y7(P:Program)(H:N7)(t:TypeId)(m k v:Value):Option N7:=
 match vK P t with
 |some (kt,_)=>
  if R2 P kt k then
   match m with
   | .map (some b)=>
    match H.get b with
    |some (.map es)=>
     match kM P kt k es 0 with
     |some (some (i,_))=>some (H.put b (.map (es.set i (k,v))))
     |some none=>some (H.put b (.map (es++[(k,v)])))
     |none=>none
    |_=>none
   |_=>none
  else none
 |none=>none
def F6(P:Program)(op:BinOp)(t:TypeId)(x y:Value):Option Value:=
 match op with
 | .eql=>(eqA P t x y).map .bool
 | .neq=>(eqA P t x y).map fun b=> .bool !b
 | .shl=>match x,y with
  | .int k a,.int _ b=>if 0<=b then some (.int k (k.wrap (a*2 ^ (min b.toNat k.bits)))) else none
  |_,_=>none
 | .shr=>match x,y with
  | .int k a,.int _ b=>if 0<=b then some (.int k (a.fdiv (2 ^ (min b.toNat k.bits)))) else none
  |_,_=>none
 |_=>
  match x,y with
  | .int k a,.int k' b=>
   if k=k' then
    match op with
    | .add=>some (.int k (k.wrap (a+b)))
    | .sub=>some (.int k (k.wrap (a-b)))
    | .mul=>some (.int k (k.wrap (a*b)))
    | .quo=>if b=0 then none else some (.int k (k.wrap (a.tdiv b)))
    | .rem=>if b=0 then none else some (.int k (a.tmod b))
    | .and=>some (.int k (Go.bits .and k a b))
    | .or=>some (.int k (Go.bits .or k a b))
    | .xor=>some (.int k (Go.bits .xor k a b))
    | .andNot=>some (.int k (Go.bits .andNot k a b))
    | .lss=>some (.bool (a<b))
    | .leq=>some (.bool (a<=b))
    | .gtr=>some (.bool (a>b))
    | .geq=>some (.bool (a≥b))
    |_=>none
   else none
  | .string a,.string b=>
   match op with
   | .add=>if a.size+b.size<=9223372036854775807 then some (.string (a++b)) else none
   | .lss=>some (.bool (Op.bytesLess a.toList b.toList))
   | .leq=>some (.bool (Op.bytesLess a.toList b.toList||a.toList==b.toList))
   | .gtr=>some (.bool !(Op.bytesLess a.toList b.toList||a.toList==b.toList))
   | .geq=>some (.bool !(Op.bytesLess a.toList b.toList))
   |_=>none
  |_,_=>none
def unA(op:UnOp)(x:Value):Option Value:=
 match op,x with
 | .neg,.int k n=>some (.int k (k.wrap (0-n)))
 | .not,.bool b=>some (.bool !b)
 | .xor,.int k n=>some (.int k (Go.bits .xor k (if k.signed then -1 else k.max) n))
 |_,_=>none
def Z4(P:Program)(H:N7)(src dst:TypeId)(x:Value):Option (Value×Option N7):=
 match P.underlying src,P.underlying dst,x with
 |some _,some (.int k),.int _ n=>some (.int k (k.wrap n),none)
 |some _,some .string,.string s=>some (.string s,none)
 |some (.slice e),some .string,.slice a n c=>
  match P.underlying e with
  |some (.int .u8)=>match(A5 H 1 (.slice a n c)).bind (·.mapM dd)with
   |some l=>some (.string ⟨l.toArray⟩,none)
   |none=>none
  |_=>none
 |some _,some (.slice e),.string s=>
  match P.underlying e with
  |some (.int .u8)=>some (.slice (some ⟨H.next,0,none⟩) s.size (s.size+1),some (H.push (.cells (s.data.toList.map S0) true 1)))
  |some (.int .i32)=>
   some (.slice (some ⟨H.next,0,none⟩) (Conv.runesFrom s s.size 0 #[]).size ((Conv.runesFrom s s.size 0 #[]).size+1),some (H.push (.cells (Conv.runesFrom s s.size 0 #[]).toList true 1)))
  |_=>none
 |_,_,_=>none
def EK(P:Program)(H:N7)(ts:List TypeId)(x:Value):Option Value:=
 match ts.head?.bind P.underlying,x with
 |some .string,.string s=>some (goInt s.size)
 |some (.slice _),.slice _ n _=>some (goInt n)
 |some (.array n _),_=>some (goInt n)
 |some (.map _ _),.map none=>some (goInt 0)
 |some (.map _ _),.map (some b)=>match H.get b with
  |some (.map es)=>some (goInt es.length)
  |_=>none
 |_,_=>none
def iE(mx:Bool):LV->Option Value
 |[.int k a]=>some (.int k a)
 | .int k a:: .int k' b::rest=>if k=k' then iE mx (.int k (if mx then(if b>a then b else a) else(if b<a then b else a))::rest) else none
 |_=>none
termination_by l=>l.length
def opv(e:Env):Operand->Value
 | .tmp t=>e.get t
 | .const v=>v
 | .func f=> .func (.func f) #[] #[]
 | .global _=>undef
abbrev A8:=FuncId->LV->N7->Option (Value×Option N7)
def D7(P:Program)(b:Builtin)(ts:List TypeId)(args:LV)(H:N7):Option (Value×Option N7):=
 match b,args with
 | .len,[x]=>(EK P H ts x).map fun v=>(v,none)
 | .append,[s,x]=>C2 P H ts s x
 | .copy,[d,s]=>kI P H ts d s
 | .max,xs=>(iE true xs).map fun v=>(v,none)
 | .min,xs=>(iE false xs).map fun v=>(v,none)
 |_,_=>none
def fI(P:Program)(C:A8)(e:Env)(c:Call)(H:N7):Option (Value×Option N7):=
 match c.callee with
 | .builtin b=>D7 P b c.argTypes.toList (c.args.toList.map (opv e)) H
 | .value f=>
  match opv e f with
  | .func (.func g) first captured=>C g (first.toList++c.args.toList.map (opv e)++captured.toList) H
  |_=>none
 | .invoke _ _=>none
def jB(H:N7)(it:Value):Option (Value×Option N7):=
 match it with
 | .pointer (some ⟨b,0,none⟩)=>
  match H.get b with
  |some (.iter s pos)=>
   if pos<s.size then
    some (.tuple #[.bool true,goInt pos,.int .i32 (Utf8.decode s pos).1],some (H.put b (.iter s (pos+(Utf8.decode s pos).2))))
   else some (.tuple #[.bool false],none)
  |_=>none
 |_=>none
def keep(v:Option Value):Option (Value×Option N7):=v.map fun v=>(v,none)
def turn(r:Option (Value×N7)):Option (Value×Option N7):=r.map fun(v,H)=>(v,some H)
def aop(P:Program)(C:A8)(o:Op)(e:Env)(H:N7):Option (Value×Option N7):=
 match o with
 | .move x| .assign x=>keep (some (opv e x))
 | .pick c a b=>match opv e c with
  | .bool t=>keep (some (if t then opv e a else opv e b))
  |_=>none
 | .alloc t=>turn ((O9 P t).map fun z=>(.pointer (some ⟨H.next,0,none⟩),H.push (.cells z true 1)))
 | .box _ x=>if(opv e x).cells.toList.all Value.oneCell' then turn (some (.pointer (some ⟨H.next,0,none⟩),H.push (.cells (opv e x).cells.toList true 1))) else none
 | .build t parts=>keep (mE P t (parts.toList.map fun(i,x)=>(i,opv e x)))
 | .buildSlice t len parts=>turn (Q7 P H t len (parts.toList.map fun(i,x)=>(i,opv e x)))
 | .load t a=>keep (ld P t H (opv e a))
 | .store t a x=>turn ((sto P t H (opv e a) (opv e x)).map fun H'=>(undef,H'))
 | .nilCheck x=>match opv e x with
  | .pointer (some a)=>keep (some (.pointer (some a)))
  | .func (.func g) f c=>keep (some (.func (.func g) f c))
  |_=>none
 | .binOp op t x y _=>keep (F6 P op t (opv e x) (opv e y))
 | .unOp op _ x=>keep (unA op (opv e x))
 | .convert s d x=>Z4 P H s d (opv e x)
 | .makeInterface t x=>if P.concrete t then keep (some (.iface t (opv e x))) else none
 | .makeFunc fn first captured=>match fn with
  | .func g=>keep (some (.func (.func g) (first.toList.map (opv e)).toArray (captured.toList.map (opv e)).toArray))
  |_=>none
 | .makeMap _ none=>turn (some (.map (some H.next),H.push (.map [])))
 | .makeSlice t l c=>turn (N0 P H t (opv e l) (opv e c))
 | .slice t x lo hi mx=>keep (aH P H t (opv e x) (lo.map (opv e)) (hi.map (opv e)) (mx.map (opv e)))
 | .fieldAddr s x f=>keep (bf P s (opv e x) f)
 | .field s x f=>keep (oI P s (opv e x) f)
 | .indexAddr t x ix=>keep (U5 P t (opv e x) (opv e ix))
 | .index t x ix=>keep (fY P t (opv e x) (opv e ix))
 | .lookup t m k ok=>keep (gQ P H t (opv e m) (opv e k) ok)
 | .mapUpdate t m k v=>turn ((Y7 P H t (opv e m) (opv e k) (opv e v)).map fun H'=>(undef,H'))
 | .range t x=>match P.underlying t,opv e x with
  |some .string,.string s=>turn (some (.pointer (some ⟨H.next,0,none⟩),H.push (.iter s 0)))
  |_,_=>none
 | .next it true=>jB H (opv e it)
 | .extract x i=>match opv e x with
  | .tuple vs=>if vs.toList.length<9 then keep (vs.toList[i]?) else none
  |_=>none
 | .call c=>fI P C e c H
 |_=>none
inductive Out where
 |normal
 |exit (id:Nat)
 |ret
 deriving DecidableEq
def isB(v:Value)(b:Bool):Bool:=match v with| .bool c=>c==b|_=>false
def E0(ops:Array Oper)(e:Env)(o:Oper):Bool:=
 match o.guard with
 |none=>true
 |some (j,b)=>match(ops[j]?).bind (·.dst)with
  |some d=>isB (e.get d) b
  |none=>false
def lost:Value:= .tuple #[.chan none,.chan none,.chan none,.chan none,.chan none,.chan none,.chan none,.chan none,.chan none]
def xC:Value->Bool
 | .tuple vs=>decide (vs.toList.length=9)
 |_=>false
def X4(ops:Array Oper)(e:Env)(o:Oper):Bool:=
 match o.guard with
 |none=>false
 |some (j,_)=>match(ops[j]?).bind (·.dst)with
  |some d=>xC (e.get d)
  |none=>false
def I3(e:Env):Option Nat->Value->Env
 |some d,v=>(d,v)::e
 |none,_=>e
def D1(P:Program)(C:A8)(ops:Array Oper):List Oper->Env->N7->Option (Env×N7)
 |[],e,H=>some (e,H)
 |o::rest,e,H=>
  if X4 ops e o then none else if E0 ops e o then
   match aop P C o.op e H with
   |some (v,none)=>D1 P C ops rest (I3 e o.dst v) H
   |some (v,some H')=>D1 P C ops rest (I3 e o.dst v) H'
   |none=>none
  else D1 P C ops rest (I3 e o.dst undef) H
def isCall:Op->Bool
 | .call {callee:= .value _,.. }=>true
 |_=>false
def oz:Op->Bool
 | .move _| .assign _| .slice .. =>true
 |_=>false
def pureTailB(ops:Array Oper)(n:Nat):Bool:=
 Region.noSelect ops&&decide (n<ops.size)&&(ops.toList.take n).all (fun o=>o.guard.isNone&&oz o.op)&&Region.lexHead .any ops (ops.size-n) n 0 (Array.replicate ops.size false)
def zU(ops:Array Oper)(n:Nat):Bool:=Region.lexTailB .any ops n||pureTailB ops n
def I2(P:Program)(C:A8)(ops:Array Oper):Nat->Bool->List Oper->Env->N7->Option (Env×N7)
 |_,_,[],e,H=>if Region.lexB .any ops then some (e,H) else none
 |i,q,o::rest,e,H=>
  if X4 ops e o then none else if E0 ops e o then
   match aop P C o.op e H with
   |some (v,none)=>I2 P C ops (i+1) (q||isCall o.op) rest (I3 e o.dst v) H
   |some (v,some H')=>if !q&&zU ops i then D1 P C ops rest (I3 e o.dst v) H' else none
   |none=>none
  else I2 P C ops (i+1) q rest (I3 e o.dst undef) H
def A9:Op->Bool
 | .alloc _| .box .. | .buildSlice .. | .store .. | .makeMap .. | .makeSlice .. | .mapUpdate .. | .range .. | .next .. =>true
 | .call ⟨.value _,_,_⟩=>true
 | .call ⟨.builtin .len,_,_⟩=>false
 | .call ⟨.builtin _,_,_⟩=>true
 |_=>false
def az:Op->Bool
 | .alloc _| .buildSlice .. =>true
 |_=>false
def rdK:Op->Bool
 | .load .. | .slice .. | .lookup .. | .convert .. | .call _=>true
 |_=>false
def PZ:Op->Bool
 | .call ⟨.value _,_,_⟩=>false
 |o=>A9 o
def U2(o:Oper):List Nat:=(o.after.toList.filter fun e=>Region.binds .any e).map (·.on)
def E4:List Oper->List Nat->List Nat
 |[],acc=>acc
 |o::r,acc=>E4 r (acc++[(U2 o).foldl (fun m d=>m|||(1<<<d)|||acc.getD d 0) 0])
def isAnc(A:List Nat)(i k:Nat):Bool:=(A.getD i 0).testBit k
def mc(ops:Array Oper)(A:List Nat)(i k:Nat)(oi ok:Oper):Bool:=
 (match ok.dst with
  |none=>true
  |some d=>(!(oi.looksAt ops).contains d||(if k<i then isAnc A i k else if i<k then isAnc A k i else false))&&(k==i||oi.dst !=some d)&&
   (!az ok.op||((A9 oi.op&& !az oi.op)|| !(oi.looksAt ops).contains d)))&&
 (!(decide (k<i)&&A9 oi.op&& !az oi.op&&A9 ok.op)||isAnc A i k)
def kl(ops:Array Oper)(A:List Nat)(i:Nat)(oi:Oper):Bool:=
 (U2 oi).all (· <i)&&(List.range ops.size).all (fun k=> !isAnc A i k||(U2 oi).any (fun d=>d==k||isAnc A d k))&&
 (List.range ops.size).all (fun k=>match ops[k]? with|none=>false|some ok=>mc ops A i k oi ok)&&
 (!az oi.op||(oi.guard.isNone&&oi.dst.isSome))
def kX(ops:Array Oper)(A:List Nat):Bool:=
 Region.noSelect ops&&(List.range ops.size).all fun i=>match ops[i]? with|none=>false|some oi=>kl ops A i oi
def T6(ops:Array Oper):List Nat:=(List.range ops.size).filter fun i=>match ops[i]? with|some o=>A9 o.op|none=>false
def sv(A tl:List Nat)(i:Nat):Nat×Nat:=((tl.takeWhile fun c=>isAnc A i c).length,(tl.takeWhile fun c=> !isAnc A c i).length)
def Ry(ops:Array Oper):Bool:=(List.range ops.size).any fun i=>match ops[i]? with
 |none=>false
 |some x=>isCall x.op&&A9 x.op&&(ops.toList.drop (i+1)).any fun y=>isCall y.op&&A9 y.op
def su(ops:Array Oper):Bool:=
 ((List.range ops.size).any fun i=>match ops[i]? with
  |none=>false
  |some o=>(PZ o.op&& !zU ops i)||(isCall o.op&&(ops.toList.drop (i+1)).any fun o=>PZ o.op))||(Ry ops&&kX ops (E4 ops.toList []))
def noC:A8:=fun _ _ _=>none
def rz(P:Program):List (Op×Env×Value×Nat)->Nat->N7->Prop
 |[],_,_=>True
 |(o,e,v,hi)::r,j,H=>(j<=hi->aop P noC o e H=some (v,none))/\rz P r j H
def ry(P:Program)(o:Op)(e:Env)(v:Value)(lo:Nat):List (Nat×N7)->Prop
 |[]=>True
 |(j,K)::r=>(lo<=j->aop P noC o e K=some (v,none))/\ry P o e v lo r
open Classical in
noncomputable def I7(P:Program)(C:A8)(ops:Array Oper):Nat->List (Nat×N7)->List (Op×Env×Value×Nat)->List (Oper×Nat×Nat)->Env->N7->Option (Env×N7)
 |_,_,_,[],e,H=>some (e,H)
 |t,Ks,obs,(o,lo,hi)::rest,e,H=>
  if X4 ops e o then none else if E0 ops e o then
   if A9 o.op then
    match aop P C o.op e H with
    |some (v,r)=>if rz P obs (t+1) (r.getD H) then I7 P C ops (t+1) ((t,H)::Ks) obs rest (I3 e o.dst v) (r.getD H) else none
    |none=>none
   else
    match aop P noC o.op e H with
    |some (v,none)=>if rdK o.op then(if ry P o.op e v lo Ks then I7 P C ops t Ks ((o.op,e,v,hi)::obs) rest (I3 e o.dst v) H else none) else I7 P C ops t Ks obs rest (I3 e o.dst v) H
    |_=>none
  else if A9 o.op then I7 P C ops (t+1) ((t,H)::Ks) obs rest (I3 e o.dst undef) H
  else I7 P C ops t Ks obs rest (I3 e o.dst undef) H
def jw(ops:Array Oper):List (Oper×Nat×Nat):=ops.toList.zipIdx.map fun q=>(q.1,sv (E4 ops.toList []) (T6 ops) q.2)
noncomputable def aR(P:Program)(C:A8)(ops:Array Oper)(e:Env)(H:N7):Option (Env×N7):=
 if su ops then(if kX ops (E4 ops.toList []) then I7 P C ops 0 [] [] (jw ops) e H else none) else I2 P C ops 0 false ops.toList e H
def dh:Code->List Nat
 | .region _ ops _=>ops.toList.filterMap (·.dst)
 | .seq a b=>dh a++dh b
 | .cond _ a b=>dh a++dh b
 | .block _ a| .loop a| .scope a=>dh a
 |_=>[]
def Ip:Op->Bool
 | .alloc _=>true
 |_=>false
def zI:Op->Bool
 | .store _ _ _=>true
 |_=>false
def Mc:Op->Bool
 | .load _ _=>true
 |_=>false
def fc(ops:Array Oper)(listed:List Bool)(rs:List Nat):Bool:=decide (Region.ready .any ops listed.toArray=rs)
def zl(ops:Array Oper):Bool:=
 match ops.toList with
 |[o0,o1,o2,o3]=>Ip o0.op&&zI o1.op&&zI o2.op&&Mc o3.op&&decide (o0.guard=none)&&fc ops [false,false,false,false] [0]&&fc ops [true,false,false,false] [1,2]&&
   fc ops [true,true,false,false] [2]&&fc ops [true,false,true,false] [1]&&fc ops [true,true,true,false] [3]&&fc ops [true,true,true,true] []
 |_=>false
structure JL where
 ops:Array Oper
 l1:List Oper
 l2:List Oper
 ds:List Nat
def eM(a b:Code):Option JL:=
 match a with
 | .region _ ops true=>match ops.toList with
  |[o0,o1,o2,o3]=>if zl ops then some ⟨ops,[o0,o1,o2,o3],[o0,o2,o1,o3],ops.toList.filterMap (·.dst)++dh b⟩ else none
  |_=>none
 |_=>none
def N4(n:Nat)(H:N7):N7:=(H.put n .dead).put (n+1) .dead
open Classical in
noncomputable def nG(ds:List Nat)(e:Env)(n:Nat)(x y:Option (Out×Env×N7)):Option (Out×Env×N7):=
 match x,y with
 |some (.normal,_,H1),some (.normal,_,H2)=>if N4 n H1=N4 n H2 then some (.normal,ds.map (fun d=>(d,lost))++e,N4 n H1) else none
 |_,_=>none
noncomputable def L5(P:Program)(C:A8):Nat->Code->Env->N7->Option (Out×Env×N7)
 |0,_,_,_=>none
 |k+1,c,e,H=>
  match c with
  | .skip=>some (.normal,e,H)
  | .ret=>some (.ret,e,H)
  | .exit id=>some (.exit id,e,H)
  | .region _ ops draw=>
   match(if draw then aR P C ops e H else D1 P C ops ops.toList e H)with
   |some (e',H')=>some (.normal,e',H')
   |none=>none
  | .seq a b=>
   match eM a b with
   |some z=>
    match D1 P C z.ops z.l1 e H,D1 P C z.ops z.l2 e H with
    |some (e1,H1),some (e2,H2)=>nG z.ds e H.next (L5 P C k b e1 H1) (L5 P C k b e2 H2)
    |_,_=>none
   |none=>
    match L5 P C k a e H with
    |some (.normal,e',H')=>L5 P C k b e' H'
    |r=>r
  | .cond x a b=>
   match opv e x with
   | .bool t=>L5 P C k (if t then a else b) e H
   |_=>none
  | .block id a=>
   match L5 P C k a e H with
   |some (.exit i,e',H')=>if i=id then some (.normal,e',H') else some (.exit i,e',H')
   |r=>r
  | .loop a=>
   match L5 P C k a e H with
   |some (.normal,e',H')=>L5 P C k (.loop a) e' H'
   |r=>r
  | .scope a=>L5 P C k a e H
  |_=>none
def C5:Operand->Bool
 | .const v=>L9 v
 | .global _=>false
 |_=>true
def fo(nt:Nat):Option Nat->Bool
 |some d=>decide (d<nt)
 |none=>true
def fw(nt:Nat)(ops:Array Oper):Bool:=
 ops.toList.all fun o=>o.op.operands.toList.all C5&&fo nt o.dst
def I1(nt:Nat):Code->Bool
 | .skip| .ret| .exit _=>true
 | .region _ ops _=>fw nt ops
 | .seq a b=>I1 nt a&&I1 nt b
 | .cond c a b=>C5 c&&I1 nt a&&I1 nt b
 | .block _ a| .loop a| .scope a=>I1 nt a
 |_=>false
def jD:Op->Bool
 | .defer _=>false
 |_=>true
def E7:Code->Bool
 | .skip| .ret| .exit _=>true
 | .region _ ops draw=>ops.toList.all (fun o=>jD o.op)&&(!draw||(su ops&&kX ops (E4 ops.toList [])))
 | .seq a b=>(eM a b).isNone&&E7 a&&E7 b
 | .cond _ a b=>E7 a&&E7 b
 | .block _ a| .loop a=>E7 a
 |_=>false
def fnA(P:Program)(f:FuncId):Option (Code×Nat×List ResultVar):=
 match P.funcs[f]? with
 |some fn=>
  match fn.body with
  |some c=>if I1 fn.ntmps c&&(fn.name != "runtime.NumGoroutine") then some (c,fn.ntmps,fn.results.toList) else none
  |none=>none
 |none=>none
def M0(P:Program)(e:Env)(H:N7):ResultVar->Option Value
 | .tmp t=>some (e.get t)
 | .cell a t=>ld P t H (e.get a)
def bN:LV->Value
 |[v]=>v
 |vs=> .tuple vs.toArray
def N3:Nat->LV->Env
 |_,[]=>[]
 |i,v::vs=>(i,v)::N3 (i+1) vs
def D6(v:Value)(H H':N7):Value×Option N7:=
 if L9 v&&decide (H.bs.length<=H'.low) then(v,none) else(v,some ⟨H'.bs,min H.low H'.low⟩)
abbrev Lib:=FuncId->Option (LV->N7->Option (Value×Option N7))
def body(P:Program)(ex:Code->Env->N7->Option (Out×Env×N7))(f:FuncId)(args:LV)(H:N7):Option (Value×Option N7):=
 match fnA P f with
 |some (c,nt,rs)=>
  if args.length<=nt then
   match ex c (N3 0 args) ⟨H.bs,H.bs.length⟩with
   |some (.exit _,_,_)=>none
   |some (_,e,H')=>
    match rs.mapM (M0 P e H')with
    |some vs=>some (D6 (bN vs) H H')
    |none=>none
   |none=>none
  else none
 |none=>none
noncomputable def call(P:Program)(X:Lib):Nat->A8
 |0,_,_,_=>none
 |k+1,f,args,H=>
  match X f with
  |some g=>g args H
  |none=>body P (L5 P (call P X k) k) f args H
end Go.Proofs.YtofbhlhamfkljaaGreatDoor.Ve
namespace Go.Proofs.YtofbhlhamfkljaaGreatDoor.Ve
open Go Go.RowKit
structure Loc where
 blk:Nat
 off:Nat
 cap:Nat
 sz:Nat
def Ext(φ φ':List Loc):Prop:=∀(b:Nat)(l:Loc),φ[b]?=some l->φ'[b]?=some l
theorem Ext.refl(φ:List Loc):Ext φ φ:=fun _ _ h=>h
theorem Ext.trans{a b c:List Loc}(h:Ext a b)(k:Ext b c):Ext a c:=fun _ _ x=>k _ _ (h _ _ x)
theorem Ext.snoc(φ:List Loc)(l:Loc):Ext φ (φ++[l]):=fun b u h=>by
 rw[List.getElem?_append_left];exact h;exact(gS h).1
inductive VR(φ:List Loc):Value->Value->Prop
 |bool (b:Bool):VR φ (.bool b) (.bool b)
 |int (k:IntKind) (n:Int):VR φ (.int k n) (.int k n)
 |string (s:ByteArray):VR φ (.string s) (.string s)
 |nilptr:VR φ (.pointer none) (.pointer none)
 |ptr {b o:Nat} {l:Loc} (h:φ[b]?=some l):VR φ (.pointer (some ⟨b,o,none⟩)) (.pointer (some ⟨l.blk,l.off+o,none⟩))
 |nilslice:VR φ (.slice none 0 0) (.slice none 0 0)
 |slice0 {a a':Addr} {c:Nat}:VR φ (.slice (some a) 0 c) (.slice (some a') 0 0)
 |exact{b o n:Nat} {l:Loc} (h:φ[b]?=some l):VR φ (.slice (some ⟨b,o,none⟩) n n) (.slice (some ⟨l.blk,l.off+o,none⟩) n n)
 |slice {b o n c:Nat} {l:Loc} (h:φ[b]?=some l) (hn:n<=c) (hc:o+c*l.sz<=l.cap):
   VR φ (.slice (some ⟨b,o,none⟩) n (n+1)) (.slice (some ⟨l.blk,l.off+o,none⟩) n c)
 |nilmap:VR φ (.map none) (.map none)
 |map {b:Nat} {l:Loc} (h:φ[b]?=some l):VR φ (.map (some b)) (.map (some l.blk))
 |nilFunc:VR φ .nilFunc .nilFunc
 |func (f:FuncId) {a a' c c':Array Value} (ha:a.toList.length=a'.toList.length) (h:∀(i:Nat) x y,a.toList[i]?=some x->a'.toList[i]?=some y->VR φ x y)
   (hc:c.toList.length=c'.toList.length) (h':∀(i:Nat) x y,c.toList[i]?=some x->c'.toList[i]?=some y->VR φ x y):VR φ (.func (.func f) a c) (.func (.func f) a' c')
 |nilIface:VR φ .nilIface .nilIface
 |iface (t:TypeId) {v v':Value} (h:VR φ v v'):VR φ (.iface t v) (.iface t v')
 |agg {a a':Array Value} (ha:a.toList.length=a'.toList.length) (h:∀(i:Nat) x y,a.toList[i]?=some x->a'.toList[i]?=some y->VR φ x y):VR φ (.agg a) (.agg a')
 |tuple {a a':Array Value} (ha:a.toList.length=a'.toList.length) (h:∀(i:Nat) x y,a.toList[i]?=some x->a'.toList[i]?=some y->VR φ x y):VR φ (.tuple a) (.tuple a')
 |lost (v:Value):VR φ lost v
def VRs(φ:List Loc)(xs ys:LV):Prop:=xs.length=ys.length/\∀(i:Nat) x y,xs[i]?=some x->ys[i]?=some y->VR φ x y
theorem VR.mono{φ O:List Loc}(D:Ext φ O){a b:Value}(h:VR φ a b):VR O a b:=by
 induction h with
 |bool b=>exact .bool b
 |int k n=>exact .int k n
 |string s=>exact .string s
 |nilptr=>exact .nilptr
 |ptr h=>exact .ptr (D _ _ h)
 |nilslice=>exact .nilslice
 |slice0=>exact .slice0
 |exact h=>exact .exact (D _ _ h)
 |slice h S E=>exact .slice (D _ _ h) S E
 |nilmap=>exact .nilmap
 |map h=>exact .map (D _ _ h)
 |nilFunc=>exact .nilFunc
 |func f z h E U u J=>exact .func f z (fun i x y p q=>u i x y p q) E (fun i x y p q=>J i x y p q)
 |nilIface=>exact .nilIface
 |iface t h u=>exact .iface t u
 |agg z h u=>exact .agg z (fun i x y p q=>u i x y p q)
 |tuple z h u=>exact .tuple z (fun i x y p q=>u i x y p q)
 |lost v=>exact .lost v
theorem VRs.mono{φ u:List Loc}(z:Ext φ u){a b:LV}(h:VRs φ a b):VRs u a b:=⟨h.1,fun i x y p q=>(h.2 i x y p q).mono z⟩
theorem VRs.nil(φ:List Loc):VRs φ [] []:=⟨rfl,fun i x y p=>by simp at p⟩
theorem VRs.cons{φ:List Loc}{x y:Value}{xs u:LV}(h:VR φ x y)(k:VRs φ xs u):VRs φ (x::xs) (y::u):=
 ⟨by simp [k.1],fun i a b p q=>by
  cases i with
  |zero=>simp at p q;subst p;subst q;exact h
  |succ i=>simp at p q;exact k.2 i a b p q⟩
theorem VRs.of_cons{φ:List Loc}{x:Value}{xs z:LV}(h:VRs φ (x::xs) z):∃y u,z=y::u/\VR φ x y/\VRs φ xs u:=by
 cases z with
 |nil=>have:=h.1;simp at this
 |cons y u=>
  refine⟨y,u,rfl,h.2 0 x y sM sM,by have:=h.1;simpa using this,fun i a b p q=>h.2 (i+1) a b (by simpa using p) (by simpa using q)⟩
theorem VRs.of_nil{φ:List Loc}{u:LV}(h:VRs φ [] u):u=[]:=by
 have:=h.1;cases u with
 |nil=>rfl
 |cons _ _=>simp at this
theorem VRs.append{φ:List Loc}{a b c d:LV}(h:VRs φ a b)(k:VRs φ c d):VRs φ (a++c) (b++d):=by
 induction a generalizing b with
 |nil=>rw[h.of_nil];simpa using k
 |cons x xs D=>obtain⟨y,E,rfl,u,z⟩:=h.of_cons;simpa using VRs.cons u (D z)
theorem VRs.get{φ:List Loc}{a b:LV}(h:VRs φ a b){i:Nat}{x:Value}(z:a[i]?=some x):∃y,b[i]?=some y/\VR φ x y:=by
 have D:i<a.length:=(gS z).1;have u:i<b.length:=by rw[<-h.1];exact D
 exact⟨b[i],by simp [u],h.2 i x b[i] z (by simp [u])⟩
theorem VRs.take{φ:List Loc}{a b:LV}(h:VRs φ a b)(n:Nat):VRs φ (a.take n) (b.take n):=
 ⟨by simp [h.1],fun i x y p q=>by
  rw[List.getElem?_take]at p q;split at p
  .rename_i u;rw[if_pos u]at q;exact h.2 i x y p q
  .simp at p⟩
theorem VRs.drop{φ:List Loc}{a b:LV}(h:VRs φ a b)(n:Nat):VRs φ (a.drop n) (b.drop n):=
 ⟨by simp [h.1],fun i x y p q=>by rw[List.getElem?_drop]at p q;exact h.2 _ x y p q⟩
theorem VRs.map{φ:List Loc}{α:Type}(f g:α->Value)(l:List α)(h:∀x∈l,VR φ (f x) (g x)):VRs φ (l.map f) (l.map g):=by
 induction l with
 |nil=>exact .nil φ
 |cons x xs z=>exact .cons (h x sM) (z fun y u=>h y (by simp [u]))
theorem VRs.set{φ:List Loc}{a b:LV}(h:VRs φ a b)(i:Nat){x y:Value}(J:VR φ x y):VRs φ (a.set i x) (b.set i y):=
 ⟨by simp [h.1],fun j p q u z=>by
  rw[List.getElem?_set]at u z;by_cases D:i=j
  .subst D;rw[if_pos rfl]at u z;by_cases E:i<a.length
   .rw[if_pos E]at u;rw[if_pos (by rw[<-h.1];exact E)]at z;cases u;cases z;exact J
   .rw[if_neg E]at u;cases u
  .rw[if_neg D]at u z;exact h.2 j p q u z⟩
theorem VR.toAgg{φ:List Loc}{a b:LV}(h:VRs φ a b):VR φ (.agg a.toArray) (.agg b.toArray):= .agg (by simpa using h.1) (by simpa using h.2)
theorem VR.toTuple{φ:List Loc}{a b:LV}(h:VRs φ a b):VR φ (.tuple a.toArray) (.tuple b.toArray):= .tuple (by simpa using h.1) (by simpa using h.2)
theorem VR.na0{φ:List Loc}{v:Value}(h:na0 v=true):VR φ v v:=by
 unfold Ve.na0 at h;split at h
 .exact .bool _
 .exact .int _ _
 .exact .string _
 .exact .nilptr
 .exact .nilslice
 .exact .nilmap
 .exact .nilFunc
 .exact .nilIface
 .rename_i f a c;simp only[Bool.and_eq_true,Array.isEmpty_iff]at h;obtain⟨rfl,rfl⟩:=h;exact .func _ rfl (fun i x y p=>by simp at p) rfl (fun i x y p=>by simp at p)
 .cases h
theorem VR.na1{φ:List Loc}{v:Value}(h:na1 v=true):VR φ v v:=by
 unfold Ve.na1 at h;split at h
 .refine .agg rfl fun i x y p q=>?_;rw[p]at q;cases q;exact VR.na0 (List.all_eq_true.1 h x (mG p))
 .exact .iface _ (VR.na0 h)
 .exact VR.na0 h
theorem VR.na{φ:List Loc}{v:Value}(h:L9 v=true):VR φ v v:=by
 unfold L9 at h;split at h
 .refine .tuple rfl fun i x y p q=>?_;rw[p]at q;cases q;exact VR.na1 (List.all_eq_true.1 h x (mG p))
 .exact VR.na1 h
theorem VR.undef'(φ:List Loc):VR φ undef undef:=VR.na (by rfl)
theorem VR.eq_na0{φ:List Loc}{v v':Value}(h:VR φ v v')(u:Ve.na0 v=true):v'=v:=by
 cases h<;>first|rfl|(simp [Ve.na0]at u;done)|skip
 case func f a a' c z D h E J=>
  simp only[Ve.na0,Bool.and_eq_true,Array.isEmpty_iff]at u;obtain⟨rfl,rfl⟩:=u;have:a'= #[]:=Array.eq_empty_of_size_eq_zero (by simpa using D.symm);have:z= #[]:=Array.eq_empty_of_size_eq_zero (by simpa using E.symm)
  subst_vars;rfl
 case lost=>cases u
theorem nP{φ:List Loc}{P:Value->Bool}(E:∀v v',VR φ v v'->P v=true->v'=v) {a b:LV} (h:VRs φ a b) (u:a.all P=true):b=a:=by
 induction a generalizing b with
 |nil=>exact h.of_nil
 |cons x xs J=>
  obtain⟨y,O,rfl,z,D⟩:=h.of_cons;simp only[List.all_cons,Bool.and_eq_true]at u;rw[E _ _ z u.1,J D u.2]
theorem VR.eq_na1{φ:List Loc}{v v':Value}(h:VR φ v v')(z:Ve.na1 v=true):v'=v:=by
 by_cases D:∃a,v= .agg a
 .obtain⟨a,rfl⟩:=D;cases h with
  |agg J h=>
   rename_i a';have:=nP (fun _ _=>VR.eq_na0) ⟨J,h⟩ z;rw[Array.toList_inj.1 this]
 .by_cases E:∃t u,v= .iface t u
  .obtain⟨t,u,rfl⟩:=E;cases h with
   |iface _ h=>rw[VR.eq_na0 h z]
  .refine VR.eq_na0 h ?_;unfold Ve.na1 at z;split at z
   .exact absurd ⟨_,rfl⟩ D
   .exact absurd ⟨_,_,rfl⟩ E
   .exact z
theorem VR.eq_na{φ:List Loc}{v v':Value}(h:VR φ v v')(u:L9 v=true):v'=v:=by
 by_cases z:∃a,v= .tuple a
 .obtain⟨a,rfl⟩:=z;cases h with
  |tuple D h=>
   have:=nP (fun _ _=>VR.eq_na1) ⟨D,h⟩ u;rw[Array.toList_inj.1 this]
  |lost=>cases u
 .refine VR.eq_na1 h ?_;unfold L9 at u;split at u
  .exact absurd ⟨_,rfl⟩ z
  .exact u
theorem VR.cells{φ:List Loc}{v v':Value}(h:VR φ v v')(D:v.cells.toList.all oC=true):VRs φ v.cells.toList v'.cells.toList:=by
 cases h with
 |agg u h=>exact⟨u,h⟩
 |bool b=>exact .cons (.bool b) (.nil φ)
 |int k n=>exact .cons (.int k n) (.nil φ)
 |string s=>exact .cons (.string s) (.nil φ)
 |nilptr=>exact .cons .nilptr (.nil φ)
 |ptr h=>exact .cons (.ptr h) (.nil φ)
 |nilslice=>exact .cons .nilslice (.nil φ)
 |slice0=>exact .cons .slice0 (.nil φ)
 |exact h=>exact .cons (.exact h) (.nil φ)
 |slice h J z=>exact .cons (.slice h J z) (.nil φ)
 |nilmap=>exact .cons .nilmap (.nil φ)
 |map h=>exact .cons (.map h) (.nil φ)
 |nilFunc=>exact .cons .nilFunc (.nil φ)
 |func f u h z E=>exact .cons (.func f u h z E) (.nil φ)
 |nilIface=>exact .cons .nilIface (.nil φ)
 |iface t h=>exact .cons (.iface t h) (.nil φ)
 |tuple u h=>exact .cons (.tuple u h) (.nil φ)
 |lost=>cases D
theorem VR.oneCell{φ:List Loc}{v v':Value}(h:VR φ v v')(u:v.oneCell'=true):v'.oneCell'=v.oneCell':=by
 cases h<;>first|rfl|cases u
structure Bel(base:Nat->Prop)(w w':World):Prop where
 os:w'.os=w.os
 tape:w'.tape=w.tape
 output:w'.output=w.output
 size:w.heap.size<=w'.heap.size
 block:∀k,base k->w'.heap[k]?=w.heap[k]?
theorem Bel.refl(base:Nat->Prop)(w:World):Bel base w w:=⟨rfl,rfl,rfl,lR,fun _ _=>rfl⟩
theorem Bel.drew{base:Nat->Prop}{a w:World}(h:Bel base a w):Bel base a w.drew:=⟨h.os,h.tape,h.output,h.size,h.block⟩
theorem Bel.alloc{base:Nat->Prop}{a w:World}(h:Bel base a w)(z:∀k,base k->k<w.heap.size) (o:Obj):Bel base a (w.alloc o):=
 ⟨h.os,h.tape,h.output,Nat.le_trans h.size sM,fun k u=>by rw[Below.heap_alloc _ _ _ (z k u)];exact h.block k u⟩
theorem Bel.below{n:Nat}{w u:World}(h:Bel (· <n) w u):Below n w u:=⟨h.os,h.tape,h.output,h.size,h.block⟩
theorem dV{base:Nat->Prop}{n:Nat}(h:∀k,base k->k<n):¬base n:=fun q=>Nat.lt_irrefl _ (h n q)
structure Bs where
 ro:Nat->Prop
 pr:Nat->Prop
 sub:∀k,ro k->pr k
def Bs.lt(n:Nat):Bs:=⟨(· <n),(· <n),fun _ h=>h⟩
def Blk.mine:Blk->Bool
 | .cells _ own _=>own
 | .dead=>false
 |_=>true
def BR(base:Bs)(φ:List Loc)(B:Blk)(l:Loc)(w:World):Prop:=
 match B with
 | .dead=>True
 | .cells c own sz=>l.sz=sz/\(∀x∈c,x.oneCell'=true)/\(∀(i:Nat) x,c[i]?=some x->∃y,w.cell? ⟨l.blk,l.off+i,none⟩=some y/\VR φ x y)/\
  (own=false->base.ro l.blk)/\
  (own=true->¬base.pr l.blk/\c.length<=l.cap/\∃cs t fz,w.heap[l.blk]?=some (.cells cs t fz)/\l.off+l.cap<=cs.size/\∀i,i<l.off+l.cap->w.frozen? ⟨l.blk,i,none⟩=false)
 | .map es=>¬base.pr l.blk/\∃es' cl,w.heap[l.blk]?=some (.map es' cl)/\es'.size=es.length/\
   ∀(i:Nat) k v m,es[i]?=some (k,v)->es'.toList[i]?=some m->VR φ k m.key/\VR φ v m.val
 | .iter s p=>¬base.pr l.blk/\l.off=0/\w.heap[l.blk]?=some (.stringIter s p)
structure WR(base:Bs)(w0:World)(φ:List Loc)(S:List Blk)(w:World):Prop where
 len:φ.length=S.length
 below:Bel base.pr w0 w
 size:∀k,base.pr k->k<w.heap.size
 blk:∀(b:Nat) B l,S[b]?=some B->φ[b]?=some l->BR base φ B l w
 sep:∀(b b':Nat) B B' l l',b≠b'->S[b]?=some B->S[b']?=some B'->B.mine=true->B'.mine=true->φ[b]?=some l->φ[b']?=some l'->l.blk≠l'.blk
theorem BR.mono{base:Bs}{φ X:List Loc}{B:Blk}{l:Loc}{w E:World}(U:Ext φ X)(u:E.heap[l.blk]?=w.heap[l.blk]?)(h:BR base φ B l w):BR base X B l E:=by
 have hc:∀i,E.cell? ⟨l.blk,i,none⟩=w.cell? ⟨l.blk,i,none⟩:=fun i=>World.cell?_of_block (w:=w) u;have hf:∀i,E.frozen? ⟨l.blk,i,none⟩=w.frozen? ⟨l.blk,i,none⟩:=fun i=>World.frozen?_of_block (w:=w) u;cases B with
 |dead=>trivial
 |cells c own sz=>
  obtain⟨h0,z,O,S,D⟩:=h;refine⟨h0,z,fun i x W=>?_,S,fun ho=>?_⟩
  .obtain⟨y,p,q⟩:=O i x W;exact⟨y,by rw[hc];exact p,q.mono U⟩
  .obtain⟨a,b,cs,t,fz,c1,c2,c3⟩:=D ho;exact⟨a,b,cs,t,fz,by rw[u];exact c1,c2,fun i hi=>by rw[hf];exact c3 i hi⟩
 |map es=>
  obtain⟨a,J,cl,O,S,D⟩:=h;exact⟨a,J,cl,by rw[u];exact O,S,fun i k v m p q=>⟨(D i k v m p q).1.mono U,(D i k v m p q).2.mono U⟩⟩
 |iter s p=>exact⟨h.1,h.2.1,by rw[u];exact h.2.2⟩
theorem BR.lt{base:Bs}{φ:List Loc}{B:Blk}{l:Loc}{w:World}(h:BR base φ B l w)(u:B.mine=true):¬base.pr l.blk/\l.blk<w.heap.size:=by
 have key:∀o,w.heap[l.blk]?=some o->l.blk<w.heap.size:=fun o E=>(gA E).1;cases B with
 |dead=>cases u
 |cells c own sz=>
  simp only[Blk.mine]at u;obtain⟨a,b,cs,t,S,c1,_⟩:=h.2.2.2.2 u;exact⟨a,key _ c1⟩
 |map O=>obtain⟨a,z,J,D,_⟩:=h;exact⟨a,key _ D⟩
 |iter s p=>exact⟨h.1,key _ h.2.2⟩
theorem BR.below{base:Bs}{φ:List Loc}{c:LV}{sz:Nat}{l:Loc}{w:World}(h:BR base φ (.cells c false sz) l w):base.pr l.blk:=base.sub _ (h.2.2.2.1 rfl)
def But(w w':World)(k:Option Nat):Prop:=w.heap.size<=w'.heap.size/\∀j,j<w.heap.size->k≠some j->w'.heap[j]?=w.heap[j]?
def Fr(φ:List Loc)(S:List Blk)(low:Nat)(w w':World):Prop:=
 ∀(b:Nat) B l,b<low->S[b]?=some B->B≠ .dead->φ[b]?=some l->w'.heap[l.blk]?=w.heap[l.blk]?
structure Cls(base:Bs)(w0:World)(φ:List Loc)(S:List Blk)(w w':World):Prop where
 wr:WR base w0 φ S w'
 same:∀(b:Nat) B l,S[b]?=some B->B≠ .dead->φ[b]?=some l->w'.heap[l.blk]?=w.heap[l.blk]?
theorem WR.cls{base:Bs}{w0:World}{φ:List Loc}{S:List Blk}{w:World}(h:WR base w0 φ S w):Cls base w0 φ S w w:=⟨h,fun _ _ _ _ _ _=>rfl⟩
theorem WR.loc{base:Bs}{w0:World}{φ:List Loc}{S:List Blk}{w:World}(h:WR base w0 φ S w){b:Nat}{B:Blk}(u:S[b]?=some B):∃l,φ[b]?=some l/\BR base φ B l w:=by
 have z:b<φ.length:=by rw[h.len];exact(gS u).1
 exact⟨φ[b],by simp [z],h.blk b B _ u (by simp [z])⟩
theorem WR.same_heap{base:Bs}{w0:World}{φ:List Loc}{S:List Blk}{w u:World}(h:WR base w0 φ S w)(z:u.heap=w.heap)(E:u.os=w.os)(J:u.tape=w.tape)(O:u.output=w.output):WR base w0 φ S u:=
 ⟨h.len,⟨E.trans h.below.os,J.trans h.below.tape,O.trans h.below.output,by rw[z];exact h.below.size,fun k D=>by rw[z];exact h.below.block k D⟩,
  by rw[z];exact h.size,fun b B l p q=>(h.blk b B l p q).mono (Ext.refl φ) (by rw[z]),h.sep⟩
theorem WR.push{base:Bs}{w0:World}{φ:List Loc}{S:List Blk}{w J:World}(h:WR base w0 φ S w){B:Blk}{l:Loc}
  (hw:But w J none) (hb:Bel base.pr w0 J) (hl:B.mine=true->w.heap.size<=l.blk) (hB:BR base (φ++[l]) B l J):WR base w0 (φ++[l]) (S++[B]) J:=by
 have hx:Ext φ (φ++[l]):=Ext.snoc φ l;have old:∀(b:Nat) u z,S[b]?=some u->φ[b]?=some z->BR base (φ++[l]) u z J:=by
  intro b u z p q;have D:=h.blk b u z p q;by_cases hd:u= .dead
  .subst hd;trivial
  .refine D.mono hx ?_;by_cases O:u.mine=true
   .exact hw.2 _ (D.lt O).2 sM
   .cases u with
    |dead=>exact absurd rfl hd
    |cells c own sz=>
     have:own=false:=by simpa [Blk.mine] using O
     subst this;exact hw.2 _ (h.size _ D.below) sM
    |map es=>exact absurd rfl O
    |iter s p=>exact absurd rfl O
 have split:∀(b:Nat) u z,(S++[B])[b]?=some u->(φ++[l])[b]?=some z->(S[b]?=some u/\φ[b]?=some z)\/(b=S.length/\u=B/\z=l):=by
  intro b u z p q;by_cases E:b<S.length
  .left
   rw[List.getElem?_append_left E]at p;rw[List.getElem?_append_left (by rw[h.len];exact E)]at q;exact⟨p,q⟩
  .right
   have:b<(S++[B]).length:=(gS p).1;simp at this;have X:b=S.length:=oM;subst X;have h1:(φ++[l])[S.length]?=some l:=by rw[<-h.len];simp
   rw[h1]at q;simp at p q;exact⟨rfl,p.symm,q.symm⟩
 refine⟨by simp [h.len],hb,fun k hk=>Nat.lt_of_lt_of_le (h.size k hk) hw.1,fun b u z p q=>?_,fun b W B1 U l1 l2 a1 p1 p2 m1 m2 q1 q2=>?_⟩
 .rcases split b u z p q with⟨p,q⟩|⟨rfl,rfl,rfl⟩
  .exact old b u z p q
  .exact hB
 .rcases split b B1 l1 p1 q1 with⟨x1,y1⟩|⟨r1,r2,r3⟩<;>rcases split W U l2 p2 q2 with⟨x2,y2⟩|⟨s1,s2,s3⟩
  .exact h.sep b W B1 U l1 l2 a1 x1 x2 m1 m2 y1 y2
  .have:=((h.blk b B1 l1 x1 y1).lt m1).2;have:=hl (s2▸m2);rw[s3];omega
  .have:=((h.blk W U l2 x2 y2).lt m2).2;have:=hl (r2▸m1);rw[r3];omega
  .omega
theorem WR.put{base:Bs}{w0:World}{φ:List Loc}{S:List Blk}{w w':World}(h:WR base w0 φ S w){b:Nat}{B J:Blk}{l:Loc}(U:S[b]?=some B)(hl:φ[b]?=some l)(hm:B.mine=true)
  (hw:But w w' (some l.blk)) (W:Bel base.pr w0 w') (hB:BR base φ J l w'):WR base w0 φ (S.set b J) w':=by
 have O:∀(c:Nat) C,(S.set b J)[c]?=some C->(c=b/\C=J)\/(c≠b/\S[c]?=some C):=by
  intro c C p;rw[List.getElem?_set]at p;by_cases u:b=c
  .subst u;rw[if_pos rfl,if_pos (gS U).1]at p;exact .inl ⟨rfl,by simpa using p.symm⟩
  .rw[if_neg u]at p;exact .inr ⟨fun e=>u e.symm,p⟩
 have a4:=(h.blk b B l U hl).lt hm;refine⟨by simp [h.len],W,fun k hk=>Nat.lt_of_lt_of_le (h.size k hk) hw.1,fun c C lc p q=>?_,fun c c' C C' lc X a3 p p' m m' q q'=>?_⟩
 .rcases O c C p with⟨rfl,rfl⟩|⟨u,p⟩
  .rw[hl]at q;cases q;exact hB
  .have E:=h.blk c C lc p q;by_cases hd:C= .dead
   .subst hd;trivial
   .refine E.mono (Ext.refl φ) ?_;by_cases z:C.mine=true
    .exact hw.2 _ (E.lt z).2 (by simp only[ne_eq,Option.some.injEq];exact h.sep b c B C l lc (fun e=>u e.symm) U p hm z hl q)
    .cases C with
     |dead=>exact absurd rfl hd
     |cells cc own sz=>
      have:own=false:=by simpa [Blk.mine] using z
      subst this;have:=E.below;exact hw.2 _ (h.size _ this) (by simp only[ne_eq,Option.some.injEq];exact fun q=>((h.blk b B l U hl).lt hm).1 (q▸this))
     |map es=>exact absurd rfl z
     |iter s p=>exact absurd rfl z
 .have key:∀(c:Nat) C lc,(S.set b J)[c]?=some C->C.mine=true->φ[c]?=some lc->∃D,S[c]?=some D/\D.mine=true:=by
   intro c C lc p m q;rcases O c C p with⟨rfl,rfl⟩|⟨_,p⟩
   .exact⟨B,U,hm⟩
   .exact⟨C,p,m⟩
  obtain⟨D,d1,d2⟩:=key c C lc p m q;obtain⟨D',a1,a2⟩:=key c' C' X p' m' q';exact h.sep c c' D D' lc X a3 d1 a1 d2 a2 q q'
theorem WR.kill{base:Bs}{w0:World}{φ:List Loc}{S:List Blk}{w:World}(h:WR base w0 φ S w)(b:Nat):WR base w0 φ (S.set b .dead) w:=by
 have u:∀(c:Nat) C,(S.set b .dead)[c]?=some C->C= .dead\/(c≠b/\S[c]?=some C):=by
  intro c C p;rw[List.getElem?_set]at p;by_cases z:b=c
  .subst z;rw[if_pos rfl]at p;split at p
   .exact .inl (by simpa using p.symm)
   .cases p
  .rw[if_neg z]at p;exact .inr ⟨fun e=>z e.symm,p⟩
 refine⟨by simp [h.len],h.below,h.size,fun c C lc p q=>?_,fun c U C O lc E D p J m W q X=>?_⟩
 .rcases u c C p with rfl|⟨_,p⟩
  .trivial
  .exact h.blk c C lc p q
 .rcases u c C p with rfl|⟨_,p⟩
  .cases m
  .rcases u U O J with rfl|⟨_,J⟩
   .cases W
   .exact h.sep c U C O lc E D p J m W q X
theorem WR.cell{base:Bs}{w0:World}{φ:List Loc}{S:List Blk}{w:World}(h:WR base w0 φ S w){b:Nat}{c:LV}{own:Bool}{sz:Nat}(O:S[b]?=some (.cells c own sz)):
  ∃l W,φ[b]?=some l/\VRs φ c W/\(∀J,Cls base w0 φ S w J->∀(i:Nat) y,W[i]?=some y->J.cell? ⟨l.blk,l.off+i,none⟩=some y)/\l.sz=sz:=by
 obtain⟨l,U,u⟩:=h.loc O;refine⟨l,c.zipIdx.map fun(_,i)=>(w.cell? ⟨l.blk,l.off+i,none⟩).getD undef,U,⟨by simp,fun i x y p q=>?_⟩,fun J X i y q=>?_,u.1⟩
 .obtain⟨z,D,hv⟩:=u.2.2.1 i x p;simp [p,D]at q;subst q;exact hv
 .simp only[List.getElem?_map,List.getElem?_zipIdx,Option.map_map,Nat.zero_add]at q;cases E:c[i]? with
  |none=>simp [E]at q
  |some x=>
   obtain⟨z,D,_⟩:=u.2.2.1 i x E;simp [E,D]at q;subst q;rw[World.cell?_of_block (w:=w) (X.same b _ l O sM U)];exact D
section
variable{P:Program}
theorem C1{t:TypeId}{s:Nat}(h:D8 P t=some s)(w:World):(sizeOf t).run P w= .ok s w:=by
 unfold D8 at h;cases u:P.info? t with
 |none=>simp [u]at h
 |some i=>simp [u]at h;simp [sizeOf,typeInfo,u,h]
theorem P1{t:TypeId}{b:Bool}(h:bT P t=some b)(w:World):(isAgg t).run P w= .ok b w:=by
 unfold bT at h;cases u:P.underlying t with
 |none=>simp [u]at h
 |some d=>cases d<;>simp_all [isAgg,run_underlying u]
theorem aF{t:TypeId}{z:Value}(h:iP P t=some z)(w:World):(zeroValue t).run P w= .ok z w/\na1 z=true:=by
 unfold iP at h;cases u:P.info? t with
 |none=>simp [u]at h
 |some i=>
  cases D:i.zero with
  |none=>simp [u,D]at h
  |some J=>
   simp [u,D]at h;obtain⟨E,rfl⟩:=h;exact⟨by simp [zeroValue,typeInfo,u,D],E⟩
theorem cL{t:TypeId}{z:LV}(h:O9 P t=some z)(w:World):∃J,(zeroValue t).run P w= .ok J w/\J.cells.toList=z/\z.all na0=true/\D8 P t=some z.length:=by
 unfold O9 at h;cases u:P.info? t with
 |none=>simp [u]at h
 |some i=>
  cases E:i.zero with
  |none=>simp [u,E]at h
  |some O=>
   simp only[u,E,Option.bind_some]at h;split at h
   .rename_i D;cases h;simp only[Bool.and_eq_true,beq_iff_eq]at D;exact⟨O,by simp [zeroValue,typeInfo,u,E],rfl,D.1,by simpa using D.2⟩
   .cases h
theorem VRs.na0{φ:List Loc}{l:LV}(h:l.all na0=true):VRs φ l l:=
 ⟨rfl,fun i x y p q=>by rw[p]at q;cases q;exact VR.na0 (List.all_eq_true.1 h x (mG p))⟩
end
def iW(P:Program)(base:Bs)(w0:World)(φ:List Loc)(S:List Blk)(w:World)(s:Sem Value)(v:Value):Prop:=
 ∃v',VR φ v v'/\∀w',Cls base w0 φ S w w'->s.run P w'= .ok v' w'
section
variable{P:Program}{base:Bs}{w0:World}{φ:List Loc}{S:List Blk}{w:World}
theorem iW.const{s:Sem Value}{v v':Value}(h:VR φ v v')(z:∀u,s.run P u= .ok v' u):iW P base w0 φ S w s v:=⟨v',h,fun u _=>z u⟩
theorem kG{H:N7}(E:WR base w0 φ H.bs w){b:Nat}{c:LV}{own:Bool}{sz:Nat}(O:H.get b=some (.cells c own sz)){l:Loc}(U:φ[b]?=some l):
  ∃z,VRs φ c z/\∀D,Cls base w0 φ H.bs w D->∀(i:Nat) y,z[i]?=some y->D.cell? ⟨l.blk,l.off+i,none⟩=some y:=by
 obtain⟨X,z,u,W,J,_⟩:=E.cell O;rw[U]at u;cases u;exact⟨z,W,J⟩
theorem qJ{J:World}{b o:Nat}{D:LV}(h:∀(i:Nat) y,D[i]?=some y->J.cell? ⟨b,o+i,none⟩=some y) (n:Nat) (k:Nat) (O:n+k<=D.length):
  (loadCells ⟨b,o+n,none⟩ k).run P J= .ok ((D.drop n).take k).toArray J:=by
 have z:((D.drop n).take k).length=k:=by simp;omega
 have:=run_loadCells_list (P:=P) J ⟨b,o+n,none⟩ ((D.drop n).take k) (fun j v E=>by
  have u:(⟨b,o+n,none⟩:Addr).add j=⟨b,o+n+j,none⟩:=by unfold Addr.add;split<;>simp_all
  rw[u,Nat.add_assoc];refine h _ _ ?_;rw[List.getElem?_take]at E;split at E
  .rwa [List.getElem?_drop]at E
  .cases E)
 rwa [z]at this
theorem uN{t:TypeId}{H:N7}{a a' v:Value}(U:WR base w0 φ H.bs w)(h:ld P t H a=some v)(W:VR φ a a'):iW P base w0 φ H.bs w (Instr.loadAt t a') v:=by
 unfold ld at h;split at h
 rotate_left
 .cases h
 rename_i b o;split at h
 rotate_left
 .cases h
 rename_i c own sz X;cases W with
 |ptr hl=>
  rename_i l;obtain⟨ys,E,O⟩:=kG U X hl;split at h
  .rename_i u;split at h
   rotate_left
   .cases h
   rename_i s hs;split at h
   rotate_left
   .cases h
   rename_i D;cases h;refine⟨.agg ((ys.drop o).take s).toArray,VR.toAgg ((E.drop o).take s),fun J z=>?_⟩;simp only[Instr.loadAt,Instr.sureAddr,loadVar,Sem.run_bind,Sem.run_pure,Result.andThen_ok,P1 u,if_true,C1 hs,
    qJ (O J z) o s (by rw[<-E.1];exact D)]
  .rename_i u;obtain⟨y,hy,hr⟩:=E.get h;refine⟨y,hr,fun J z=>?_⟩;simp only[Instr.loadAt,Instr.sureAddr,loadVar,Sem.run_bind,Sem.run_pure,Result.andThen_ok,P1 u,bF,run_load,O J z o y hy]
  .cases h
theorem fN{u J:List Q5}{xs z:LV}{b:Bool}(h:A6 (u++J) xs z=some b):
  ∃D E,A6 u (xs.take u.length) (z.take u.length)=some D/\A6 J (xs.drop u.length) (z.drop u.length)=some E/\b=(D&&E):=by
 induction u generalizing xs z b with
 |nil=>exact⟨true,b,by simp [A6],by simpa using h,by simp⟩
 |cons k u ih=>
  cases xs with
  |nil=>simp [A6]at h
  |cons x xs=>
   cases z with
   |nil=>simp [A6]at h
   |cons y z=>
    simp only[List.cons_append,A6]at h;split at h
    .rename_i a b' W X;cases h;obtain⟨D,E,O,U,rfl⟩:=ih X;exact⟨a&&D,E,by simp [A6,W,O],by simpa using U,by rw[Bool.and_assoc]⟩
    .cases h
theorem de{z:List Q5}{xs u:LV}{b:Bool}(h:A6 z xs u=some b):xs.length=z.length/\u.length=z.length:=by
 induction z generalizing xs u b with
 |nil=>cases xs<;>cases u<;>simp_all [A6]
 |cons k z E=>
  cases xs with
  |nil=>simp [A6]at h
  |cons x xs=>
   cases u with
   |nil=>simp [A6]at h
   |cons y u=>
    simp only[A6]at h;split at h
    .rename_i D;have:=E D;simp [this.1,this.2]
    .cases h
theorem fS{d:Nat}{t:TypeId}{U:List Q5}(h:X7 P (d+1) t=some U)(O:bT P t=some false):
  ∃k,U=[k]/\∀D E J b(w:World),N6 k E J=some b->(Op.equalIn (D+1) t E J).run P w= .ok b w:=by
 unfold X7 at h;unfold bT at O;split at h
 .rename_i z;cases h;refine⟨_,rfl,fun D E J b w u=>?_⟩;unfold N6 at u;split at u<;>first|(simp_all;done)|skip
  cases u;exact run_equalIn_bool' w D t _ _ z
 .rename_i k z;cases h;refine⟨_,rfl,fun D E J b w u=>?_⟩;unfold N6 at u;split at u<;>first|(simp_all;done)|skip
  split at u
  .rename_i W;subst W;cases u;exact run_equalIn_int w D t _ k _ _ z
  .cases u
 .rename_i z;cases h;refine⟨_,rfl,fun D E J b w u=>?_⟩;unfold N6 at u;split at u<;>first|(simp_all;done)|skip
  cases u;rw[run_equalIn_string w D t _ _ z,beq_toListBytes]
 .rename_i z;simp [z]at O
 .cases h
theorem uu{d:Nat}:∀{t:TypeId}{ks:List Q5},X7 P d t=some ks->bT P t=some true->
  ∀D,d<=D->∀(xs E:Array Value) b(w:World),A6 ks xs.toList E.toList=some b->(Op.equalIn D t (.agg xs) (.agg E)).run P w= .ok b w:=by
 induction d with
 |zero=>intro t ks h;simp [X7]at h
 |succ d ih=>
  intro t ks h ha D hD xs E b w hc;obtain⟨D,rfl⟩:∃m,D=m+1:=⟨D-1,oM⟩
  unfold X7 at h;unfold bT at ha;split at h<;>first|(rename_i hu;simp [hu]at ha;done)|(rename_i k hu;simp [hu]at ha;done)|(cases h;done)|skip
  rename_i fs hu;split at h
  .cases h
  rename_i a5;have hf:P.underlying t=some (.struct (P.fieldsOf t)):=by simp [Program.fieldsOf,hu]
  have a3:P.fieldsOf t=fs:=by simp [Program.fieldsOf,hu]
  rw[run_equalIn_struct w D t xs E hf (by simpa using a5),a3];have key:∀(fl:List Field)(n:Nat)(r:List Q5)(b:Bool),iz P (X7 P d) fl n=some r->A6 r (xs.toList.drop n) (E.toList.drop n)=some b->
    (Op.eqFields D xs E fl).run P w= .ok b w:=by
   intro fl;induction fl with
   |nil=>intro n r b u h2;simp [iz]at u;subst u;have:=de h2;cases hx:xs.toList.drop n<;>cases hy:E.toList.drop n<;>simp_all [A6,Op.eqFields]
   |cons f fl a9=>
    intro n r b u h2;simp only[iz]at u;split at u
    rotate_left
    .cases u
    rename_i hn;split at u
    rotate_left
    .cases u
    rename_i m X;split at u
    rotate_left
    .cases u
    rename_i hs;simp only[Option.map_eq_some_iff]at u;obtain⟨r',a4,rfl⟩:=u;obtain⟨b1,b2,W,e2,rfl⟩:=fN h2;rw[List.drop_drop]at e2;rw[List.drop_drop]at e2;have a1:=a9 _ _ _ a4 e2;have O:=de W;have U:∃a c,(part f.type xs f.offset).run P w= .ok a w/\(part f.type E f.offset).run P w= .ok c w/\(Op.equalIn D f.type a c).run P w= .ok b1 w:=by
     have J:∃d',d=d'+1:=by cases d with
      |zero=>simp [X7]at X
      |succ d'=>exact⟨d',rfl⟩
     obtain⟨d',rfl⟩:=J;have a2:∃q,bT P f.type=some q:=by
      unfold bT;unfold X7 at X;split at X<;>rename_i a6<;>first|exact⟨_,by rw[a6]⟩|cases X
     obtain⟨q,hq⟩:=a2;cases q with
     |true=>
      refine⟨.agg (xs.extract f.offset (f.offset+m.length)),.agg (E.extract f.offset (f.offset+m.length)),by simp [part,P1 hq,C1 hs],by simp [part,P1 hq,C1 hs],?_⟩;refine ih X hq D oM _ _ _ w ?_;rw[hn.2]
      simpa [List.take_drop] using W
     |false=>
      obtain⟨k,rfl,hk⟩:=fS X hq;obtain⟨D',rfl⟩:∃z,D=z+1:=⟨D-1,oM⟩
      simp only[List.length_cons,List.length_nil,Nat.zero_add]at W O;obtain⟨x,hx⟩:∃x,(xs.toList.drop n).take 1=[x]:=List.length_eq_one_iff.1 O.1;obtain⟨y,hy⟩:∃y,(E.toList.drop n).take 1=[y]:=List.length_eq_one_iff.1 O.2;rw[hx,hy]at W;have a7:xs[f.offset]?=some x:=by
       have:((xs.toList.drop n).take 1)[0]?=some x:=by rw[hx];rfl
       rw[hn.2];simpa [List.getElem?_take,List.getElem?_drop] using this
      have a8:E[f.offset]?=some y:=by
       have:((E.toList.drop n).take 1)[0]?=some y:=by rw[hy];rfl
       rw[hn.2];simpa [List.getElem?_take,List.getElem?_drop] using this
      refine⟨x,y,by simp [part,P1 hq,a7],by simp [part,P1 hq,a8],hk D' x y b1 w ?_⟩;unfold A6 at W;split at W<;>simp_all [A6]
    obtain⟨a,c,s1,s2,s3⟩:=U;simp only[Op.eqFields,hn.1,ne_eq,not_false_eq_true,if_true,Sem.run_bind,s1,s2,s3,Result.andThen_ok];cases b1
    .simp
    .simpa using a1
  exact key fs.toList 0 ks b h (by simpa using hc)
theorem S7{t:TypeId}{u:List Q5}(h:vJ P t=some u):P.eqGuardType P.depth t=false/\X7 P 9 t=some u:=by
 unfold vJ at h;split at h
 .cases h
 .rename_i z;exact⟨by simpa using z,h⟩
theorem jY{k:Q5}{x y u z:Value}{b:Bool}(h:N6 k x y=some b)(D:VR φ x u)(E:VR φ y z):u=x/\z=y:=by
 unfold N6 at h;split at h<;>first|(cases h;done)|(cases D;cases E;exact⟨rfl,rfl⟩)
theorem iu{D:List Q5}{xs u xs' z:LV}{b:Bool}(h:A6 D xs u=some b)(E:VRs φ xs xs')(J:VRs φ u z):xs'=xs/\z=u:=by
 induction D generalizing xs u xs' z b with
 |nil=>cases xs<;>cases u<;>simp [A6]at h;exact⟨E.of_nil,J.of_nil⟩
 |cons k D W=>
  cases xs with
  |nil=>simp [A6]at h
  |cons x xs=>
   cases u with
   |nil=>simp [A6]at h
   |cons y u=>
    simp only[A6]at h;split at h
    .rename_i a c O U;obtain⟨x2,a1,rfl,p1,p2⟩:=E.of_cons;obtain⟨y2,a2,rfl,X,q2⟩:=J.of_cons;obtain⟨rfl,rfl⟩:=jY O p1 X;obtain⟨rfl,rfl⟩:=W U p2 q2;exact⟨rfl,rfl⟩
    .cases h
theorem Z0{t e:TypeId}(h:I5 P t=some e):P.underlying t=some (.slice e):=by
 unfold I5 at h;split at h
 .cases h;assumption
 .cases h
theorem GW{d:Nat}{t e:TypeId}(u:P.underlying t=some (.pointer e))(b:Option Addr)(w:World):(Op.equalIn (d+1) t (.pointer none) (.pointer b)).run P w= .ok b.isNone w:=by
 simp [Op.equalIn,run_underlying u]
theorem GU{d:Nat}{t e:TypeId}(u:P.underlying t=some (.pointer e))(a:Addr)(w:World):(Op.equalIn (d+1) t (.pointer (some a)) (.pointer none)).run P w= .ok false w:=by
 simp [Op.equalIn,run_underlying u]
theorem GX{d:Nat}{t e:TypeId}(u:P.underlying t=some (.slice e))(n c m k:Nat)(b:Option Addr)(w:World):(Op.equalIn (d+1) t (.slice none n c) (.slice b m k)).run P w= .ok b.isNone w:=by
 simp [Op.equalIn,run_underlying u]
theorem GV{d:Nat}{t e:TypeId}(u:P.underlying t=some (.slice e))(a:Addr)(n c m k:Nat)(w:World):(Op.equalIn (d+1) t (.slice (some a) n c) (.slice none m k)).run P w= .ok false w:=by
 simp [Op.equalIn,run_underlying u]
theorem lV{t:TypeId}{x y:Value}{b:Bool}{w:World}(D:∀op z u,eqGuard op t z u x y=pure ()) (U:binOp .eql t x y=(do pure (.bool (<-Op.equal t x y)))) (W:binOp .neq t x y=(do pure (.bool (!(<-Op.equal t x y)))))
  (h:(Op.equalIn (9999+1) t x y).run P w= .ok b w) (E J:Operand):
  (do eqGuard .eql t E J x y;binOp .eql t x y).run P w= .ok (.bool b) w/\(do eqGuard .neq t E J x y;binOp .neq t x y).run P w= .ok (.bool !b) w:=by
 have O:(Op.equal t x y).run P w= .ok b w:=h;rw[D,D,U,W];simp only[Sem.run_bind,Sem.run_pure,Result.andThen_ok,O,and_self]
theorem ug{t:TypeId}{x y X y':Value}{b:Bool}(h:eqA P t x y=some b)(D:VR φ x X)(E:VR φ y y')(J O:Operand)(w:World):
  (do eqGuard .eql t J O X y';binOp .eql t X y').run P w= .ok (.bool b) w/\(do eqGuard .neq t J O X y';binOp .neq t X y').run P w= .ok (.bool !b) w:=by
 unfold eqA at h;split at h
 .split at h
  rotate_left
  .cases h
  rename_i W;cases h;cases D;cases E;have u:P.underlying t=some .bool:=by unfold vI at W;split at W<;>first|assumption|cases W
  simp only[eqGuard_at_bool,Sem.run_bind,Sem.run_pure,Result.andThen_ok,run_eql_bool w t _ _ u,run_neq_bool w t _ _ u,and_self]
 .split at h
  rotate_left
  .cases h
  rename_i k hk;subst hk;cases h;cases D;cases E;simp [eqGuard_at_int,binOp,Op.intCmp,bne]
 .cases h;cases D;cases E;simp [eqGuard_at_string,binOp,Op.stringOp,beq_toListBytes]
 .cases D;split at h
  rotate_left
  .cases h
  rename_i e u;cases h;cases E<;>exact lV (fun _ _ _=>eqGuard_at_pointer ..) rfl rfl (GW u _ w) J O
 .cases D;cases E;split at h
  rotate_left
  .cases h
  rename_i e u;cases h;exact lV (fun _ _ _=>eqGuard_at_pointer ..) rfl rfl (GU u _ w) J O
 .cases D;split at h
  rotate_left
  .cases h
  rename_i u;obtain⟨e,he⟩:=Option.isSome_iff_exists.1 u;cases h;cases E<;>exact lV (fun _ _ _=>eqGuard_at_slice ..) rfl rfl (GX (Z0 he) _ _ _ _ _ w) J O
 .split at h
  rotate_left
  .cases h
  rename_i u;obtain⟨e,he⟩:=Option.isSome_iff_exists.1 u;cases h;cases E;cases D<;>exact lV (fun _ _ _=>eqGuard_at_slice ..) rfl rfl (GV (Z0 he) _ _ _ _ _ w) J O
 .split at h
  rotate_left
  .cases h
  rename_i ks z;cases D with
  |agg ha a1=>
   cases E with
   |agg W a2=>
    rename_i xs xs' ys a3;obtain⟨e1,e2⟩:=iu h ⟨ha,a1⟩ ⟨W,a2⟩;obtain rfl:=Array.toList_inj.1 e1;obtain rfl:=Array.toList_inj.1 e2;unfold oW at z;split at z
    rotate_left
    .cases z
    rename_i U;obtain⟨hg,hf⟩:=S7 z;simp only[beq_iff_eq]at U;have hr:=fun w=>uu hf U 10000 oM _ _ b w h;simp only[Sem.run_bind,run_eqGuard_agg w _ t J O _ _ hg,Result.andThen_ok,run_eql_struct,run_neq_struct,hr,and_self]
 .cases h
theorem Av{op:BinOp}{t:TypeId}{x y J U v:Value}(h:F6 P op t x y=some v)(z:VR φ x J)(D:VR φ y U)(O W:Operand):
  ∃v',VR φ v v'/\∀w,(do eqGuard op t O W J U;binOp op t J U).run P w= .ok v' w:=by
 unfold F6 at h;split at h
 .simp only[Option.map_eq_some_iff]at h;obtain⟨b,u,rfl⟩:=h;exact⟨_,.bool b,fun w=>(ug u z D O W w).1⟩
 .simp only[Option.map_eq_some_iff]at h;obtain⟨b,u,rfl⟩:=h;exact⟨_,.bool !b,fun w=>(ug u z D O W w).2⟩
 .split at h
  .cases z;cases D;split at h
   .rename_i u;cases h;exact⟨_,.int _ _,fun w=>by simp [eqGuard_at_int,binOp,Op.shift];intro;omega⟩
   .cases h
  .cases h
 .split at h
  .cases z;cases D;split at h
   .rename_i u;cases h;exact⟨_,.int _ _,fun w=>by simp [eqGuard_at_int,binOp,Op.shift];intro;omega⟩
   .cases h
  .cases h
 .rename_i n1 n2 n3 n4;split at h
  .rename_i k a k' b;cases z;cases D;split at h
   rotate_left
   .cases h
   rename_i X;subst X;split at h
   case h_1=>cases h;exact⟨_,.int _ _,fun w=>by simp [eqGuard_at_int,binOp,Op.intArith]⟩
   case h_2=>cases h;exact⟨_,.int _ _,fun w=>by simp [eqGuard_at_int,binOp,Op.intArith]⟩
   case h_3=>cases h;exact⟨_,.int _ _,fun w=>by simp [eqGuard_at_int,binOp,Op.intArith]⟩
   case h_4=>
    split at h
    .cases h
    .rename_i u;cases h;exact⟨_,.int _ _,fun w=>by simp [eqGuard_at_int,binOp,Op.intDiv,u]⟩
   case h_5=>
    split at h
    .cases h
    .rename_i u;cases h;exact⟨_,.int _ _,fun w=>by simp [eqGuard_at_int,binOp,Op.intDiv,u]⟩
   case h_6=>cases h;exact⟨_,.int _ _,fun w=>by simp [eqGuard_at_int,binOp,Op.intBits,Go.bits]⟩
   case h_7=>cases h;exact⟨_,.int _ _,fun w=>by simp [eqGuard_at_int,binOp,Op.intBits,Go.bits]⟩
   case h_8=>cases h;exact⟨_,.int _ _,fun w=>by simp [eqGuard_at_int,binOp,Op.intBits,Go.bits]⟩
   case h_9=>cases h;exact⟨_,.int _ _,fun w=>by simp [eqGuard_at_int,binOp,Op.intBits,Go.bits]⟩
   case h_10=>cases h;exact⟨_,.bool _,fun w=>by simp [eqGuard_at_int,binOp,Op.intCmp]⟩
   case h_11=>cases h;exact⟨_,.bool _,fun w=>by simp [eqGuard_at_int,binOp,Op.intCmp]⟩
   case h_12=>cases h;exact⟨_,.bool _,fun w=>by simp [eqGuard_at_int,binOp,Op.intCmp]⟩
   case h_13=>cases h;exact⟨_,.bool _,fun w=>by simp [eqGuard_at_int,binOp,Op.intCmp]⟩
   case h_14=>cases h
  .rename_i a b;cases z;cases D;split at h
   case h_1=>
    split at h
    .rename_i hs;cases h;refine⟨_,.string _,fun w=>?_⟩;have E:¬((a.size+b.size:Nat):Int)>IntKind.i64.max:=by simp;omega
     simp only[eqGuard_at_string,binOp,Op.stringOp,Sem.run_bind,Sem.run_pure,Result.andThen_ok,if_neg E]
    .cases h
   case h_2=>cases h;exact⟨_,.bool _,fun w=>by simp [eqGuard_at_string,binOp,Op.stringOp]⟩
   case h_3=>cases h;exact⟨_,.bool _,fun w=>by simp [eqGuard_at_string,binOp,Op.stringOp]⟩
   case h_4=>cases h;exact⟨_,.bool _,fun w=>by simp [eqGuard_at_string,binOp,Op.stringOp]⟩
   case h_5=>cases h;exact⟨_,.bool _,fun w=>by simp [eqGuard_at_string,binOp,Op.stringOp]⟩
   case h_6=>cases h
  .cases h
theorem Gb{op:UnOp}{x z v:Value}(h:unA op x=some v)(u:VR φ x z):∃v',VR φ v v'/\∀w,(Op.unary op z).run P w= .ok v' w:=by
 unfold unA at h;split at h
 .cases h;cases u;exact⟨_,.int _ _,fun w=>by simp [Op.unary,Op.intArith]⟩
 .cases h;cases u;exact⟨_,.bool _,fun w=>by simp [Op.unary]⟩
 .cases h;cases u;exact⟨_,.int _ _,fun w=>by simp [Op.unary,Op.intBits,Go.bits]⟩
 .cases h
theorem Addr.add_none(b o n:Nat):(⟨b,o,none⟩:Addr).add n=⟨b,o+n,none⟩:=by unfold Addr.add;split<;>simp_all
theorem lI{t:TypeId}{x ix x' D v:Value}(h:U5 P t x ix=some v)(X:VR φ x x')(W:VR φ ix D):∃v',VR φ v v'/\∀w,(Instr.indexAt t x' D).run P w= .ok v' w:=by
 unfold U5 at h;split at h
 .rename_i e b o n c k i O;cases W;split at h
  rotate_left
  .cases h
  rename_i size J;split at h
  rotate_left
  .cases h
  rename_i E;cases h;have z:∀(l:Loc) U,φ[b]?=some l->∃v',VR φ (.pointer (some ⟨b,o+i.toNat*size,none⟩)) v'/\∀w,(Instr.indexAt t (.slice (some ⟨l.blk,l.off+o,none⟩) n U) (.int k i)).run P w= .ok v' w:=by
   intro l U u;refine⟨_,.ptr u,fun w=>?_⟩;simp only[Instr.indexAt,asIntOf,Sem.run_bind,Sem.run_pure,Result.andThen_ok,run_underlying O,E,and_self,if_true,C1 J,Addr.add_none,Nat.add_assoc]
  cases X with
  |slice0=>exfalso;omega
  |exact u=>exact z _ _ u
  |slice u=>exact z _ _ u
 .rename_i n e b o k i O;cases W;split at h
  rotate_left
  .cases h
  rename_i size J;split at h
  rotate_left
  .cases h
  rename_i E;cases h;cases X with
  |ptr u=>
   refine⟨_,.ptr u,fun w=>?_⟩;simp only[Instr.indexAt,Instr.sureAddr,asIntOf,Sem.run_bind,Sem.run_pure,Result.andThen_ok,run_underlying O,E,and_self,if_true,C1 J,Addr.add_none,Nat.add_assoc]
 .cases h
theorem oh{t:TypeId}{cs cs':LV}{u:Nat}{v:Value}(h:ik P t cs u=some v)(D:VRs φ cs cs'):∃v',VR φ v v'/\∀w,(part t cs'.toArray u).run P w= .ok v' w:=by
 unfold ik at h;split at h
 .rename_i s z E;cases h;refine⟨_,VR.toAgg ((D.drop u).take s),fun w=>?_⟩;simp [part,P1 z,C1 E]
 .rename_i z;obtain⟨y,O,J⟩:=D.get h;refine⟨y,J,fun w=>?_⟩;simp only[part,Sem.run_bind,P1 ‹_›,Result.andThen_ok,bF,List.getElem?_toArray,O,Sem.run_pure]
 .cases h
theorem um{t:TypeId}{x z v:Value}{i:Nat}(h:oI P t x i=some v)(W:VR φ x z):∃v',VR φ v v'/\∀w,(Instr.field t z i).run P w= .ok v' w:=by
 unfold oI sT at h;split at h
 rotate_left
 .cases h
 rename_i X ft cs u;split at u
 rotate_left
 .cases u
 rename_i fs U;simp only[Option.map_eq_some_iff,Prod.mk.injEq]at u;obtain⟨f,u,rfl,rfl⟩:=u;cases W with
 |agg J O=>
  obtain⟨v',D,E⟩:=oh (cs':=_) h ⟨J,O⟩;exact⟨v',D,fun w=>by simpa [Instr.field,run_underlying U,u,asAgg] using E w⟩
theorem lF{t:TypeId}{x D v:Value}{i:Nat}(h:bf P t x i=some v)(U:VR φ x D):∃v',VR φ v v'/\∀w,(Instr.fieldAt t D i).run P w= .ok v' w:=by
 unfold bf sT at h;split at h
 rotate_left
 .cases h
 rename_i W ft b o u;split at u
 rotate_left
 .cases u
 rename_i X O;simp only[Option.map_eq_some_iff,Prod.mk.injEq]at u;obtain⟨f,u,rfl,rfl⟩:=u;split at h
 rotate_left
 .cases h
 rename_i s J;split at h
 .cases h
 rename_i z;cases h;cases U with
 |ptr E=>
  refine⟨_,.ptr E,fun w=>?_⟩;simp only[Instr.fieldAt,Sem.run_bind,run_underlying O,Result.andThen_ok,u,Instr.sureAddr,Sem.run_pure,fieldPlace,C1 J,if_neg z,Addr.add_none,Nat.add_assoc]
theorem uD{t:TypeId}{x W X D v:Value}(h:fY P t x W=some v)(U:VR φ x X)(O:VR φ W D):∃v',VR φ v v'/\∀w,(Instr.index t X D).run P w= .ok v' w:=by
 unfold fY at h;split at h
 .rename_i n e cs k i J;cases O;split at h
  rotate_left
  .cases h
  rename_i size hs;split at h
  rotate_left
  .cases h
  rename_i E;cases U with
  |agg ha hc=>
   obtain⟨v',h1,h2⟩:=oh (cs':=_) h ⟨ha,hc⟩;refine⟨v',h1,fun w=>?_⟩;have u:=h2 w;simp only[Array.toArray_toList]at u;simp only[Instr.index,asIntOf,Sem.run_bind,Sem.run_pure,Result.andThen_ok,run_underlying J,E,and_self,if_true,C1 hs,u]
 .rename_i s k i J;cases O;cases U;split at h
  rotate_left
  .cases h
  rename_i E;cases h;refine⟨_,.int _ _,fun w=>?_⟩;have z:i.toNat<s.size:=oM;have hg:(if 0<=i then s[i.toNat]? else none)=some (s.data.toList.getD i.toNat 0):=by
   rw[if_pos E.1,ByteArray.getElem?_lt' s i.toNat z];have:i.toNat<s.data.size:=z;simp only[List.getD_eq_getElem?_getD,Array.getElem?_toList,Array.getElem?_eq_getElem this,Option.getD_some];rfl
  simp only[Instr.index,asIntOf,Sem.run_bind,Sem.run_pure,Result.andThen_ok,run_underlying J,hg]
 .cases h
end
section
variable{P:Program}{base:Bs}{w0:World}{φ:List Loc}{S:List Blk}{w:World}
theorem fG{x u:Option Value}{d n:Nat}(h:bnd x d=some n)(E:∀v v',x=some v->u=some v'->VR φ v v') (z:x.isSome=u.isSome):
  u=x/\((x=none/\n=d)\/∃k i,x=some (.int k i)/\0<=i/\n=i.toNat):=by
 unfold bnd at h;split at h
 .cases h;cases u with
  |none=>exact⟨rfl,.inl ⟨rfl,rfl⟩⟩
  |some _=>simp at z
 .rename_i k i _;split at h
  .rename_i D;cases h;cases u with
   |none=>simp at z
   |some v'=>
    have:=E _ _ rfl rfl;cases this;exact⟨rfl,.inr ⟨_,_,rfl,D,rfl⟩⟩
  .cases h
 .cases h
theorem oK{D:Bool}{E u:Nat}{lo O:Option Value}{l h:Nat}(hl:(lo=none/\l=0)\/∃k i,lo=some (.int k i)/\0<=i/\l=i.toNat)
  (X:(O=none/\h=E)\/∃k i,O=some (.int k i)/\0<=i/\h=i.toNat) (h1:l<=h) (h2:h<=E) (h3:E<=u) (w:World):
  (Instr.sliceBounds D E u lo O none).run P w= .ok (l,h,u) w:=by
 have J:∀k(i:Int)(y:Nat) z,0<=i->i.toNat<=y->(Instr.sliceBound (.int k i) y z).run P w= .ok i.toNat w:=fun k i y z W hy=>run_sliceBound w k i y z W oM;rcases hl with⟨rfl,rfl⟩|⟨k,i,rfl,U,rfl⟩<;>rcases X with⟨rfl,rfl⟩|⟨k',j,rfl,j0,rfl⟩
 .simp [Instr.sliceBounds]
 .simp [Instr.sliceBounds,J k' j u _ j0 oM]
 .simp [Instr.sliceBounds,J k i h _ U oM]
 .simp [Instr.sliceBounds,J k' j u _ j0 oM,J k i j.toNat _ U oM]
theorem vw{z:Bool}{E D:Nat}{lo O mx:Option Value}{l h:Nat}(hl:(lo=none/\l=0)\/∃k i,lo=some (.int k i)/\0<=i/\l=i.toNat)
  (hh:∃k i,O=some (.int k i)/\0<=i/\h=i.toNat) (hm:∃k i,mx=some (.int k i)/\0<=i/\h=i.toNat) (h1:l<=h) (h2:h<=E) (h3:E<=D) (w:World):
  (Instr.sliceBounds z E D lo O mx).run P w= .ok (l,h,h) w:=by
 have J:∀k(i:Int)(y:Nat) u,0<=i->i.toNat<=y->(Instr.sliceBound (.int k i) y u).run P w= .ok i.toNat w:=fun k i y u h0 hy=>run_sliceBound w k i y u h0 oM;obtain⟨W,j,rfl,U,rfl⟩:=hh;obtain⟨X,m,rfl,m0,e⟩:=hm;rcases hl with⟨rfl,rfl⟩|⟨k,i,rfl,i0,rfl⟩
 .simp [Instr.sliceBounds,J X m D _ m0 oM,J W j m.toNat _ U oM];omega
 .simp [Instr.sliceBounds,J X m D _ m0 oM,J W j m.toNat _ U oM,J k i j.toNat _ i0 oM];omega
theorem CB{H:N7}(D:WR base w0 φ H.bs w){b size:Nat}(h:CA H b=some size){l:Loc}(J:φ[b]?=some l):l.sz=size:=by
 unfold CA at h;split at h
 .rename_i c own sz E;cases h;obtain⟨O,u,z⟩:=D.loc E;rw[J]at u;cases u;exact z.1
 .cases h
theorem lk{H:N7}{t:TypeId}{x x' v:Value}{lo hi mx W J O:Option Value}(hW:WR base w0 φ H.bs w)(h:aH P H t x lo hi mx=some v)(hx:VR φ x x')
  (a2:(∀v v',lo=some v->W=some v'->VR φ v v')/\lo.isSome=W.isSome) (a1:(∀v v',hi=some v->J=some v'->VR φ v v')/\hi.isSome=J.isSome)
  (a3:(∀v v',mx=some v->O=some v'->VR φ v v')/\mx.isSome=O.isSome):
  ∃v',VR φ v v'/\∀u,(Instr.sliceAt t x' W J O).run P u= .ok v' u:=by
 unfold aH at h;split at h
 .rename_i s hu;cases hx;split at h
  rotate_left
  .cases h
  rename_i l E a7 a6;split at h
  rotate_left
  .cases h
  rename_i hb;cases h;obtain⟨rfl,L⟩:=fG a7 a2.1 a2.2;obtain⟨rfl,R⟩:=fG a6 a1.1 a1.2;obtain rfl:O=none:=by cases O<;>simp at a3 ⊢
  refine⟨_,.string _,fun u=>?_⟩;simp [Instr.sliceAt,Instr.slice,run_underlying hu,oK L R hb.1 hb.2 lR]
 .rename_i e a n c hu;split at h
  rotate_left
  .cases h
  rename_i size l E hs a7 a6;split at h
  .cases h
  rename_i b6;split at h
  rotate_left
  .cases h
  rename_i hb;obtain⟨rfl,L⟩:=fG a7 a2.1 a2.2;obtain⟨rfl,R⟩:=fG a6 a1.1 a1.2;split at h
  ·
   obtain rfl:O=none:=by cases O<;>simp at a3 ⊢
   have run:∀a'(z:Nat),n<=z->∀u,(Instr.sliceAt t (.slice a' n z) W J none).run P u= .ok (.slice (if z=l then a' else a'.map (·.add (l*size))) (E-l) (z-l)) u:=by
    intro a' z hc u;simp [Instr.sliceAt,Instr.slice,run_underlying hu,oK L R hb.1 hb.2 hc,C1 hs]
   split at h
   .cases h;cases hx;exact⟨_,.nilslice,fun u=>by rw[run _ _ lR];simp;omega⟩
   .rename_i b o;by_cases b1:n=0
    .subst b1;rw[if_pos rfl]at h;cases h;have e0:l=0:=oM;have e1:E=0:=oM;subst e0 e1;cases hx with
     |slice0=>exact⟨.slice (some _) 0 0,.slice0,fun u=>by rw[run _ _ lR];simp;rfl⟩
     |exact U=>exact⟨.slice (some _) 0 0,.slice0,fun u=>by rw[run _ _ lR];simp;rfl⟩
     |slice U hn hc=>
      rename_i c' lc;by_cases a9:c'=0
      .subst a9;exact⟨.slice (some _) 0 0,.slice0,fun u=>by rw[run _ _ lR];simp;rfl⟩
      .refine⟨_,?_,fun u=>run _ _ hn u⟩;rw[if_neg a9];simp only[Option.map_some,Addr.add_none,Nat.add_assoc,Nat.zero_mul,Nat.add_zero,Nat.sub_zero];exact .slice U (Nat.zero_le _) hc
    rw[if_neg b1]at h;split at h
    .cases h
    rename_i a8;have a8:CA H b=some size:=Decidable.not_not.1 a8;split at h
    .rename_i a5;subst a5;split at h
     rotate_left
     .cases h
     rename_i b2;subst b2;cases h;cases hx with
     |slice0=>
      have h0:l=0:=oM;subst h0;exact⟨.slice (some _) 0 0,.slice0,fun u=>by rw[run _ _ lR];simp;rfl⟩
     |exact U=>
      rename_i lc;by_cases D:E=l
      .subst D;refine⟨_,?_,fun u=>run _ _ lR u⟩;rw[if_pos rfl];have:E-E=0:=oM;rw[this];exact .slice0
      .refine⟨_,?_,fun u=>run _ _ lR u⟩;rw[if_neg D];simp only[Option.map_some,Addr.add_none,Nat.add_assoc];exact .exact U
    .rename_i a5;cases h;cases hx with
     |slice0=>
      have h0:l=0:=oM;have X:E=0:=oM;subst h0 X;exact⟨.slice (some _) 0 0,.slice0,fun u=>by rw[run _ _ lR];simp;rfl⟩
     |exact U=>exact absurd rfl a5
     |slice U hn hc=>
      rename_i c' lc;refine⟨_,?_,fun u=>run _ _ hn u⟩;by_cases D:c'=l
      .subst D;rw[if_pos rfl];have e1:E-c'=0:=oM;have e2:c'-c'=0:=oM;rw[e1,e2];exact .slice0
      .rw[if_neg D];simp only[Option.map_some,Addr.add_none,Nat.add_assoc];refine .slice U oM ?_;have hz:=CB hW a8 U;rw[hz]at hc ⊢;have:o+l*size+(c'-l)*size=o+c'*size:=by
        have:l<=c':=oM;rw[Nat.add_assoc,<-Nat.add_mul,Nat.add_sub_cancel' this]
       omega
   .cases h
  .rename_i m;split at h
   rotate_left
   .cases h
   rename_i b0;obtain⟨rfl,M⟩:=fG b0.1 a3.1 a3.2;have M':∃k i,some m=some (.int k i)/\0<=i/\E=i.toNat:=by
    rcases M with⟨X,_⟩|X
    .cases X
    .exact X
   have R':J.isSome->∃k i,J=some (.int k i)/\0<=i/\E=i.toNat:=by
    intro b4;rcases R with⟨X,_⟩|X
    .subst X;cases b4
    .exact X
   have run:∀a'(z:Nat),n<=z->∀u,(Instr.sliceAt t (.slice a' n z) W J (some m)).run P u= .ok (.slice (if E=l then a' else a'.map (·.add (l*size))) (E-l) (E-l)) u:=by
    intro a' z hc u;simp [Instr.sliceAt,Instr.slice,run_underlying hu,vw L (R' b0.2) M' hb.1 hb.2 hc,C1 hs]
   split at h
   .cases h;cases hx;exact⟨_,.nilslice,fun u=>by rw[run _ _ lR];simp;omega⟩
   .rename_i b o;cases h;have a4:∀a'(z:Nat),n<=z->(E=l\/∃lc:Loc,φ[b]?=some lc/\a'=some ⟨lc.blk,lc.off+o,none⟩)->a'.isSome->
      ∃v',VR φ (.slice (some ⟨b,o+l*size,none⟩) (E-l) (E-l)) v'/\∀u,(Instr.sliceAt t (.slice a' n z) W J (some m)).run P u= .ok v' u:=by
     intro a' z hc b3 b5;refine⟨_,?_,fun u=>run _ _ hc u⟩;by_cases D:E=l
     .subst D;rw[if_pos rfl];have:E-E=0:=oM;rw[this];cases a' with
      |none=>cases b5
      |some a'=>exact .slice0
     .rw[if_neg D];rcases b3 with X|⟨lc,U,rfl⟩
      .exact absurd X D
      .simp only[Option.map_some,Addr.add_none,Nat.add_assoc];exact .exact U
    cases hx with
    |slice0=>exact a4 _ _ lR (.inl oM) rfl
    |exact U=>exact a4 _ _ lR (.inr ⟨_,U,rfl⟩) rfl
    |slice U hn hc=>exact a4 _ _ hn (.inr ⟨_,U,rfl⟩) rfl
   .cases h
 .cases h
theorem E3(c:LV)(o:Nat)(xs:LV):(splice c o xs).length=c.length:=by
 induction xs generalizing c o with
 |nil=>rfl
 |cons x xs u=>simp [splice,u]
theorem VRs.splice{a b xs u:LV}(h:VRs φ a b)(o:Nat)(k:VRs φ xs u):VRs φ (Ve.splice a o xs) (Ve.splice b o u):=by
 induction xs generalizing a b o u with
 |nil=>rw[k.of_nil];exact h
 |cons x xs E=>
  obtain⟨y,u,rfl,z,D⟩:=k.of_cons;exact E (h.set o z) (o+1) D
theorem rN(l:LV):∀(k u:Nat)(cs:Array Value),(l.zipIdx k).foldl (fun cs(c,j)=>cs.setIfInBounds (u+j) c) cs=(splice cs.toList (u+k) l).toArray:=by
 induction l with
 |nil=>intro k u cs;simp [splice]
 |cons x xs z=>
  intro k u cs;simp only[List.zipIdx_cons,List.foldl_cons,z,splice]
  congr 1
  rw[Array.toList_setIfInBounds];rw[Nat.add_assoc]
def iY(φ:List Loc)(a b:List (Nat×Value)):Prop:=a.length=b.length/\∀(i:Nat) x y,a[i]?=some x->b[i]?=some y->x.1=y.1/\VR φ x.2 y.2
theorem iY.of_cons{i:Nat}{x:Value}{xs z:List (Nat×Value)}(h:iY φ ((i,x)::xs) z):∃y u,z=(i,y)::u/\VR φ x y/\iY φ xs u:=by
 cases z with
 |nil=>have:=h.1;simp at this
 |cons y u=>
  obtain⟨j,y⟩:=y;have D:=h.2 0 (i,x) (j,y) sM sM;simp only at D;obtain⟨rfl,E⟩:=D;exact⟨y,u,rfl,E,by have:=h.1;simpa using this,fun k a b p q=>h.2 (k+1) a b (by simpa using p) (by simpa using q)⟩
theorem iY.of_nil{u:List (Nat×Value)}(h:iY φ [] u):u=[]:=by
 have:=h.1;cases u with
 |nil=>rfl
 |cons _ _=>simp at this
theorem eO{D:Nat->Option (Nat×Nat)}{u z:List (Nat×Value)}:∀{cs cs' l:LV},T4 D cs u=some l->VRs φ cs cs'->iY φ u z->
  ∃l',Instr.fill D cs'.toArray z=some l'.toArray/\VRs φ l l':=by
 induction u generalizing z with
 |nil=>
  intro cs cs' l h X hp;rw[hp.of_nil];simp only[T4,Option.some.injEq]at h;subst h;exact⟨cs',rfl,X⟩
 |cons p u ih=>
  intro cs cs' l h X hp;obtain⟨i,x⟩:=p;obtain⟨y,ys,rfl,hv,a1⟩:=hp.of_cons;simp only[T4]at h;cases U:D i with
  |none=>simp [U]at h
  |some q=>
   obtain⟨W,size⟩:=q;simp only[U]at h;split at h
   .cases h
   rename_i O;have J:x.cells.toList.all oC=true:=by
    cases hq:x.cells.toList.all oC with
    |true=>rfl
    |false=>exact absurd (.inr (.inr hq)) O
   have a3:y.cells.toList.length=x.cells.toList.length:=(hv.cells J).1.symm;have a2:=X.1;obtain⟨l',e1,e2⟩:=ih h (X.splice W (hv.cells J)) a1;refine⟨l',?_,e2⟩;simp only[Instr.fill,U];have hy:y.cells.size=size:=by
    have:y.cells.toList.length=y.cells.size:=sM;omega
   have E:((decide (y.cells.size≠size))||decide (W+y.cells.size>cs'.toArray.size))=false:=by
    simp only[hy,ne_eq,not_true_eq_false,decide_false,Bool.false_or,decide_eq_false_iff_not,List.size_toArray];omega
   rw[E];simp only[bF];rw[<-e1]
   congr 1
   rw[<-Array.foldl_toList,Array.toList_zipIdx,rN];simp
theorem tM{t:TypeId}{O E:List (Nat×Value)}{v:Value}(h:mE P t O=some v)(hp:iY φ O E):
  ∃v',VR φ v v'/\∀w,(Instr.build t E.toArray).run P w= .ok v' w:=by
 unfold mE at h;have U:∀z,O9 P t=some z->∃it zv,P.info? t=some it/\it.zero=some zv/\zv.cells.toList=z/\z.all Ve.na0=true:=by
  intro z J;unfold O9 at J;cases W:P.info? t with
  |none=>simp [W]at J
  |some it=>
   cases D:it.zero with
   |none=>simp [W,D]at J
   |some zv=>
    simp only[W,D,Option.bind_some]at J;split at J
    .rename_i hc;cases J;simp only[Bool.and_eq_true]at hc;exact⟨it,zv,rfl,D,rfl,hc.1⟩
    .cases J
 split at h
 .rename_i z ps J u;obtain⟨it,zv,W,D,rfl,a1⟩:=U z J;simp only[Option.map_eq_some_iff]at h;obtain⟨l,hl,rfl⟩:=h;obtain⟨l',e1,e2⟩:=eO hl (VRs.na0 a1) hp;refine⟨_,VR.toAgg e2,fun w=>run_build w t _ _ ?_⟩;unfold FU at u;split at u
  .rename_i fs hu;simp only[Option.map_eq_some_iff]at u;obtain⟨a4,a3,he⟩:=u;cases he;have a2:fs.toList.mapM (fun f=>(P.info? f.type).map fun i=>(f.offset,i.size))=some ps:=by
    rw[<-a3]
    congr 1
    funext f
    simp [D8,Option.map_map,Function.comp_def]
   simp only[Program.built,W,hu,D,a2]
   simpa using e1
  .rename_i n e hu;simp at u
  .cases u
 .rename_i z s J u;obtain⟨it,zv,W,D,rfl,a1⟩:=U z J;simp only[Option.map_eq_some_iff]at h;obtain⟨l,hl,rfl⟩:=h;obtain⟨l',e1,e2⟩:=eO hl (VRs.na0 a1) hp;refine⟨_,VR.toAgg e2,fun w=>run_build w t _ _ ?_⟩;unfold FU at u;split at u
  .simp at u
  .rename_i n e hu;simp only[Option.map_eq_some_iff]at u;obtain⟨s',hs,he⟩:=u;cases he;unfold D8 at hs;cases X:P.info? e with
   |none=>simp [X]at hs
   |some ie=>
    simp [X]at hs;subst hs;simp only[Program.built,W,hu,D,X]
    simpa using e1
  .cases u
 .cases h
theorem BC{H:N7}{ts:List TypeId}{x x' v:Value}(hW:WR base w0 φ H.bs w)(h:EK P H ts x=some v)(O:VR φ x x')(ty:TypeId):
  ∃v',VR φ v v'/\∀D,Cls base w0 φ H.bs w D->(Builtin.len_ ts.toArray ty #[x']).run P D= .ok v' D:=by
 unfold EK at h;have E:∀d,ts.head?.bind P.underlying=some d->∃t,ts.toArray[0]?=some t/\P.underlying t=some d:=by
  intro d E;cases ts with
  |nil=>simp at E
  |cons t ts=>exact⟨t,by simp,by simpa using E⟩
 split at h
 .rename_i s u;obtain⟨t,z,u⟩:=E _ u;cases h;cases O;exact⟨_,.int _ _,fun D _=>by simp [Builtin.len_,z,run_underlying u,goInt]⟩
 .rename_i e a n c u;obtain⟨t,z,u⟩:=E _ u;cases h;cases O<;>exact⟨_,.int _ _,fun D _=>by simp [Builtin.len_,z,run_underlying u,goInt]⟩
 .rename_i n e x u;obtain⟨t,z,u⟩:=E _ u;cases h;exact⟨_,.int _ _,fun D _=>by simp [Builtin.len_,z,run_underlying u,goInt]⟩
 .rename_i k e u;obtain⟨t,z,u⟩:=E _ u;cases h;cases O;exact⟨_,.int _ _,fun D _=>by simp [Builtin.len_,z,run_underlying u,goInt]⟩
 .rename_i k e b u;obtain⟨t,z,u⟩:=E _ u;split at h
  rotate_left
  .cases h
  rename_i es X;cases h;cases O with
  |map hl=>
   rename_i l;obtain⟨l',J,W⟩:=hW.loc X;rw[hl]at J;cases J;obtain⟨hb,U,cl,h1,h2,h3⟩:=W;refine⟨_,.int _ _,fun D hc=>?_⟩;have hh:D.heap[l.blk]?=some (.map U cl):=by rw[hc.same _ _ l X sM hl];exact h1
   simp [Builtin.len_,z,run_underlying u,getObj,Sem.run,hh,goInt,h2]
 .cases h
theorem jv{z:Bool}:∀{xs:LV}{v:Value},iE z xs=some v->∀u,VRs φ xs u->∃y rest,u=y::rest/\VR φ v v/\∀w,(rest.foldlM (if z then Builtin.max2 else Builtin.min2) y).run P w= .ok v w:=by
 intro xs;induction hn:xs.length using Nat.strongRecOn generalizing xs with
 |_ n ih=>
  intro v h u O;unfold iE at h;split at h
  .cases h;obtain⟨y,u,rfl,D,E⟩:=O.of_cons;rw[E.of_nil];cases D;exact⟨_,[],rfl,.int _ _,fun w=>by simp⟩
  .rename_i k a k' b rest;split at h
   rotate_left
   .cases h
   rename_i X;subst X;obtain⟨y,u,rfl,D,E⟩:=O.of_cons;obtain⟨y2,u,rfl,U,W⟩:=E.of_cons;cases D;cases U;obtain⟨y3,J,e,hv,hr⟩:=ih _ (by simp at hn ⊢;omega) rfl h (_::u) (.cons (.int k _) W);obtain⟨rfl,rfl⟩:=List.cons.inj e;refine⟨_,_,rfl,hv,fun w=>?_⟩;rw[List.foldlM_cons,Sem.run_bind];have:((if z then Builtin.max2 else Builtin.min2) (.int k a) (.int k b)).run P w= .ok (.int k (if z then(if b>a then b else a) else(if b<a then b else a))) w:=by
    cases z<;>rfl
   rw[this,Result.andThen_ok];exact hr w
  .cases h
theorem jX(s:ByteArray):(s==s)=true:=by rw[beq_toListBytes];simp
theorem si{k:Q5}{x:Value}(h:nJ k x=true):N6 k x x=some true:=by
 unfold nJ at h;split at h
 .simp [N6]
 .simp [N6]
 .simp [N6,jX]
 .cases h
theorem qz{u:List Q5}{xs:LV}(h:X3 u xs=true):A6 u xs xs=some true:=by
 induction u generalizing xs with
 |nil=>
  cases xs with
  |nil=>rfl
  |cons _ _=>cases h
 |cons k u z=>
  cases xs with
  |nil=>cases h
  |cons x xs=>
   simp only[X3,Bool.and_eq_true]at h;simp [A6,si h.1,z h.2]
theorem Bj{d:Nat}{t:TypeId}{z:List Q5}(h:X7 P d t=some z):∃q,bT P t=some q:=by
 cases d with
 |zero=>cases h
 |succ d=>
  unfold bT;unfold X7 at h;split at h<;>rename_i u<;>first|exact⟨_,by rw[u]⟩|cases h
theorem jn{d:Nat}{t:TypeId}{u:List Q5}(h:X7 P d t=some u)(D:bT P t=some false):∃k,u=[k]:=by
 cases d with
 |zero=>cases h
 |succ d=>obtain⟨k,z,_⟩:=fS h D;exact⟨k,z⟩
theorem fm{u:Bool}{d:Nat}{t:TypeId}{O:List Q5}(h:X7 P d t=some O)(z:bT P t=some false)(D:Nat)(v:Value)(w:World){k:Q5}(E:N6 k v v=some true):
  (Instr.checkKey u (D+1) t v).run P w= .ok () w:=by
 cases d with
 |zero=>cases h
 |succ d=>
  unfold bT at z;unfold X7 at h;unfold N6 at E;split at h<;>rename_i J<;>(try rw[J]at z)<;>first|(cases z;done)|(cases h;done)|skip
  all_goals
   split at E<;>first|(cases E;done)|simp [Instr.checkKey,run_underlying J]
theorem rx{u:Bool}:∀{d:Nat}{t:TypeId}{ks:List Q5},X7 P d t=some ks->bT P t=some true->∀D,d<=D->∀(xs:Array Value)(w:World),
  A6 ks xs.toList xs.toList=some true->(Instr.checkKey u D t (.agg xs)).run P w= .ok () w:=by
 intro d;induction d with
 |zero=>intro t ks h;cases h
 |succ d ih=>
  intro t ks h hq D hD xs w hc;obtain⟨D,rfl⟩:∃m,D=m+1:=⟨D-1,oM⟩
  unfold bT at hq;unfold X7 at h;split at h<;>rename_i hu<;>(try rw[hu]at hq)<;>first|(cases hq;done)|(cases h;done)|skip
  rename_i fs;split at h
  .cases h
  simp only[Instr.checkKey,Sem.run_bind,run_underlying hu,Result.andThen_ok];rw[<-Array.forIn_toList];have key:∀(W:List Field)(n:Nat)(r:List Q5),iz P (X7 P d) W n=some r->A6 r (xs.toList.drop n) (xs.toList.drop n)=some true->
    (Sem.run P (forIn W PUnit.unit fun f a6=>
      if f.name≠ "_" then do
       let __do_lift<-part f.type xs f.offset
       Instr.checkKey u D f.type __do_lift
       pure (ForInStep.yield PUnit.unit)
      else pure (ForInStep.yield PUnit.unit)) w)= .ok PUnit.unit w:=by
   intro W;induction W with
   |nil=>intro n r J h2;rfl
   |cons f W a5=>
    intro n r J h2;simp only[iz]at J;split at J
    rotate_left
    .cases J
    rename_i hn;split at J
    rotate_left
    .cases J
    rename_i m hm;split at J
    rotate_left
    .cases J
    rename_i hs;simp only[Option.map_eq_some_iff]at J;obtain⟨r',a3,rfl⟩:=J;obtain⟨b1,b2,O,e2,e3⟩:=fN h2;obtain⟨rfl,rfl⟩:b1=true/\b2=true:=by cases b1<;>cases b2<;>simp at e3 ⊢
    rw[List.drop_drop]at e2;have a2:=a5 _ _ a3 e2;have a1:=de O;have U:∃a,(part f.type xs f.offset).run P w= .ok a w/\(Instr.checkKey u D f.type a).run P w= .ok () w:=by
     obtain⟨q,E⟩:=Bj hm;cases q with
     |true=>
      refine⟨.agg (xs.extract f.offset (f.offset+m.length)),by simp [part,P1 E,C1 hs],ih hm E D oM _ w ?_⟩;rw[hn.2]
      simpa [List.take_drop] using O
     |false=>
      obtain⟨k,rfl⟩:=jn hm E;obtain⟨D',rfl⟩:∃z,D=z+1:=⟨D-1,by cases d with
       |zero=>cases hm
       |succ d=>omega⟩
      simp only[List.length_cons,List.length_nil,Nat.zero_add]at O a1;obtain⟨x,hx⟩:∃x,(xs.toList.drop n).take 1=[x]:=List.length_eq_one_iff.1 a1.1;rw[hx]at O;have a4:xs[f.offset]?=some x:=by
       have:((xs.toList.drop n).take 1)[0]?=some x:=by rw[hx];rfl
       rw[hn.2];simpa [List.getElem?_take,List.getElem?_drop] using this
      refine⟨x,by simp [part,P1 E,a4],fm hm E D' x w (k:=k) ?_⟩;unfold A6 at O;cases X:N6 k x x with
      |none=>simp [X]at O
      |some z=>simp [X,A6]at O;rw[O]
    obtain⟨a,s1,s2⟩:=U;rw[List.forIn_cons];simp only[hn.1,ne_eq,not_false_eq_true,if_true,Sem.run_bind,s1,s2,Result.andThen_ok,Sem.run_pure]
    simpa using a2
  rw[key fs.toList 0 ks h (by simpa using hc)];rfl
theorem aB{kt:TypeId}{k:Value}(h:R2 P kt k=true)(u:Bool)(w:World):(Instr.checkKey u 10000 kt k).run P w= .ok () w:=by
 unfold R2 at h;split at h
 .rename_i E cs D z;exact rx (S7 D).2 z 10000 oM cs w (qz h)
 .rename_i E D z;obtain⟨J,rfl⟩:=jn (S7 D).2 z;simp only[X3,Bool.and_true]at h;exact fm (S7 D).2 z 9999 _ w (si h)
 .cases h
theorem kS{kt:TypeId}{k O:Value}(h:R2 P kt k=true)(u:VR φ k O):O=k:=by
 unfold R2 at h;split at h
 .rename_i U cs J E;cases u with
  |agg z D=>
   have:=(iu (qz h) ⟨z,D⟩ ⟨z,D⟩).1;rw[Array.toList_inj.1 this]
 .rename_i U J E;obtain⟨W,rfl⟩:=jn (S7 J).2 E;simp only[X3,Bool.and_true]at h;exact(jY (si h) u u).1
 .cases h
theorem kE{k:Q5}{x y:Value}(h:N6 k x y=some true):x=y:=by
 unfold N6 at h;split at h
 .simp only[Option.some.injEq,beq_iff_eq]at h;rw[h]
 .split at h
  .rename_i z;subst z;simp only[Option.some.injEq,beq_iff_eq]at h;rw[h]
  .cases h
 .simp only[Option.some.injEq]at h;rw[beq_toListBytes,beq_iff_eq,ByteArray.toList_eq,ByteArray.toList_eq]at h;have u:=Array.toList_inj.1 h;rename_i a b;obtain⟨a⟩:=a;obtain⟨b⟩:=b;simp only at u;rw[u]
 .cases h
theorem ru{z:List Q5}{xs u:LV}(h:A6 z xs u=some true):xs=u:=by
 induction z generalizing xs u with
 |nil=>cases xs<;>cases u<;>first|rfl|cases h
 |cons k z J=>
  cases xs with
  |nil=>cases h
  |cons x xs=>
   cases u with
   |nil=>cases h
   |cons y u=>
    simp only[A6]at h;split at h
    .rename_i a b D E;obtain⟨rfl,rfl⟩:a=true/\b=true:=by cases a<;>cases b<;>simp at h ⊢
     rw[kE D,J E]
    .cases h
theorem wH{k:Q5}{x y:Value}{b:Bool}(h:N6 k x y=some b):Ve.na0 x=true:=by
 unfold N6 at h;split at h<;>first|rfl|cases h
theorem wz{E:List Q5}{xs u:LV}{b:Bool}(h:A6 E xs u=some b):∀(i:Nat)(x:Value),xs[i]?=some x->∃_z:Unit,xs=xs/\Ve.na0 x=true:=by
 induction E generalizing xs u b with
 |nil=>cases xs<;>cases u<;>first|(intro i x W;simp at W;done)|cases h
 |cons k E X=>
  cases xs with
  |nil=>cases h
  |cons x xs=>
   cases u with
   |nil=>cases h
   |cons y u=>
    simp only[A6]at h;split at h
    .rename_i a b J O;intro i z D;cases i with
     |zero=>simp at D;subst D;exact⟨(),rfl,wH J⟩
     |succ i=>obtain⟨_,_,U⟩:=X O i z (by simpa using D);exact⟨(),rfl,U⟩
    .cases h
theorem EF{kt:TypeId}{k x J:Value}{b:Bool}(h:uK P kt k x=some b)(W:VR φ x J):
  J=x/\(∀w,(Op.equal kt k J).run P w= .ok b w)/\(b=true->x=k):=by
 unfold uK at h;split at h
 .rename_i ks E u;split at h
  .rename_i xs ys;cases W with
   |agg X e2=>
    have hy:=(iu (φ:=φ) (xs':=xs.toList) h ⟨rfl,fun i p q O U=>?_⟩ ⟨X,e2⟩).2
    .obtain rfl:=Array.toList_inj.1 hy;exact⟨rfl,fun w=>uu (S7 E).2 u 10000 oM _ _ b w h,fun D=>by subst D;rw[Array.toList_inj.1 (ru h)]⟩
    .rw[O]at U;cases U;obtain⟨z,_,hz⟩:=wz h _ _ O;exact VR.na0 hz
  .cases h
 .rename_i kk E u;obtain⟨k1,e,hk⟩:=fS (d:=8) (S7 E).2 u;cases e;have:=(jY h (VR.na0 (wH h)) W).2;subst this;exact⟨rfl,fun w=>hk 9999 _ _ b w h,fun D=>by subst D;exact(kE h).symm⟩
 .cases h
theorem oL{kt:TypeId}{k x:Value}{b c:Bool}{d:TypeDesc}(h:uK P kt k x=some b)(u:Instr.sameNow d k x=some c):c=b:=by
 unfold uK at h;split at h
 .split at h
  .unfold Instr.sameNow at u;split at u<;>simp_all
  .cases h
 .unfold N6 at h;split at h
  .unfold Instr.sameNow at u;split at u<;>first|(cases u;done)|skip
   all_goals first|(rename_i z E;cases z;done)|skip
   all_goals simp_all
  .split at h
   .rename_i D;subst D;unfold Instr.sameNow at u;split at u<;>first|(cases u;done)|skip
    all_goals simp_all
   .cases h
  .unfold Instr.sameNow at u;split at u<;>first|(cases u;done)|skip
   all_goals simp_all
  .cases h
 .cases h
theorem wZ{kt:TypeId}{k:Value}:∀{J:List (Value×Value)}{u:List MapEntry}{i:Nat}{r:Option (Nat×Value)},kM P kt k J i=some r->J.length=u.length->
  (∀(j:Nat) a m,J[j]?=some a->u[j]?=some m->VR φ a.1 m.key/\VR φ a.2 m.val)->
  ∃O,(∀w,(Instr.findAsking kt k u i).run P w= .ok O w)/\(∀d z,Instr.findNow d k u i=some z->z=O)/\
   (match r,O with|none,none=>True|some (j,v),some (j',v')=>j=j'/\VR φ v v'/\i<=j/\J[j-i]?=some (k,v)/\(u[j-i]?).map (·.key)=some k|_,_=>False):=by
 intro J;induction J with
 |nil=>
  intro u i r h X he;cases u with
  |cons _ _=>simp at X
  |nil=>
   cases h;exact⟨none,fun w=>by simp [Instr.findAsking],fun d z E=>by simp [Instr.findNow]at E;exact E.symm,trivial⟩
 |cons a J ih=>
  intro u i r h X he;obtain⟨ka,va⟩:=a;cases u with
  |nil=>simp at X
  |cons m u=>
   obtain⟨hk,hv⟩:=he 0 (ka,va) m sM sM;simp only[kM]at h;split at h
   .rename_i D;cases h;obtain⟨U,e2,e3⟩:=EF D hk;have e4:=e3 rfl;refine⟨some (i,m.val),fun w=>?_,fun d z E=>?_,rfl,hv,lR,by simp [e4],by simp [U,e4]⟩
    .simp [Instr.findAsking,e2 w]
    .rw[Instr.findNow,U]at E;split at E
     .exact(Option.some.inj E).symm
     .rename_i hs;have:=oL D hs;cases this
     .cases E
   .rename_i D;obtain⟨U,e2,e3⟩:=EF D hk;obtain⟨O,f1,f2,W⟩:=ih h (by simpa using X) (fun j a m' p q=>he (j+1) a m' (by simpa using p) (by simpa using q));refine⟨O,fun w=>?_,fun d z E=>?_,?_⟩
    .simp [Instr.findAsking,e2 w,f1 w]
    .rw[Instr.findNow,U]at E;split at E
     .rename_i hs;have:=oL D hs;cases this
     .exact f2 d z E
     .cases E
    .cases r with
     |none=>cases O<;>first|exact W|exact W.elim
     |some q=>
      obtain⟨j,v⟩:=q;cases O with
      |none=>exact W.elim
      |some q'=>
       obtain⟨j',v'⟩:=q';obtain⟨g1,g2,g3,g4,g5⟩:=W;refine⟨g1,g2,oM,?_,?_⟩
       .rw[show j-i=(j-(i+1))+1 from oM];simpa using g4
       .rw[show j-i=(j-(i+1))+1 from oM];simpa using g5
   .cases h
theorem bA{kt:TypeId}{k:Value}{E:List (Value×Value)}{u:List MapEntry}{r:Option (Nat×Value)}(W:R2 P kt k=true)(h:kM P kt k E 0=some r)(hl:E.length=u.length)
  (he:∀(j:Nat) a m,E[j]?=some a->u[j]?=some m->VR φ a.1 m.key/\VR φ a.2 m.val):
  ∃D,(∀w,(Instr.findKey kt k u).run P w= .ok D w)/\
   (match r,D with|none,none=>True|some (j,v),some (j',v')=>j=j'/\VR φ v v'/\E[j]?=some (k,v)/\(u[j]?).map (·.key)=some k|_,_=>False):=by
 obtain⟨D,X,f2,J⟩:=wZ h hl he;have O:∃d,P.underlying kt=some d:=by
  unfold R2 at W;cases U:vJ P kt with
  |none=>simp [U]at W
  |some ks=>
   have:=(S7 U).2;unfold X7 at this;split at this<;>rename_i O<;>first|exact⟨_,O⟩|cases this
 obtain⟨d,hd⟩:=O;refine⟨D,fun w=>?_,?_⟩
 .simp only[Instr.findKey,Sem.run_bind,run_underlying hd,Result.andThen_ok];split
  .rename_i z hz;rw[f2 d z hz];rfl
  .exact X w
 .cases r with
  |none=>cases D<;>first|exact J|exact J.elim
  |some q=>
   cases D with
   |none=>exact J.elim
   |some q'=>obtain⟨g1,g2,g3,g4,g5⟩:=J;exact⟨g1,g2,by simpa using g4,by simpa using g5⟩
theorem qR{t k e:TypeId}(h:vK P t=some (k,e)):P.underlying t=some (.map k e):=by
 unfold vK at h;split at h
 .cases h;assumption
 .cases h
theorem sj{H:N7}{t:TypeId}{m k m' k' v:Value}{ok:Bool}(hW:WR base w0 φ H.bs w)(h:gQ P H t m k ok=some v)(hm:VR φ m m')(hk:VR φ k k'):
  ∃v',VR φ v v'/\∀D,Cls base w0 φ H.bs w D->(Instr.lookup t m' k' ok).run P D= .ok v' D:=by
 unfold gQ at h;split at h
 rotate_left
 .cases h
 rename_i kt et a3;have W:=qR a3;split at h
 rotate_left
 .cases h
 rename_i u;obtain rfl:=kS u hk;have E:∀(z X:Value)(b:Bool),VR φ z X->VR φ (if ok then .tuple #[z,.bool b] else z) (if ok then .tuple #[X,.bool b] else X):=by
  intro z X b O;cases ok
  .exact O
  .exact VR.toTuple (a:=[z,.bool b]) (b:=[X,.bool b]) (.cons O (.cons (.bool b) (.nil φ)))
 split at h
 .rename_i b;split at h
  rotate_left
  .cases h
  rename_i es hg;cases hm with
  |map hl=>
   rename_i l;obtain⟨l',U,a2⟩:=hW.loc hg;rw[hl]at U;cases U;obtain⟨hb,a1,cl,h1,h2,h3⟩:=a2;have hh:∀D,Cls base w0 φ H.bs w D->D.heap[l.blk]?=some (.map a1 cl):=fun D J=>by rw[J.same _ _ l hg sM hl];exact h1
   split at h
   .rename_i j va z hf O;cases h;obtain⟨r',f1,f2⟩:=bA (φ:=φ) u hf (by simpa using h2.symm) (fun j a m p q=>h3 j a.1 a.2 m p q);cases r' with
    |none=>exact f2.elim
    |some q=>
     obtain⟨j',v'⟩:=q;obtain⟨g1,g2,_⟩:=f2;refine⟨_,E va v' true g2,fun D J=>?_⟩;simp only[Instr.lookup,Sem.run_bind,run_underlying W,Result.andThen_ok,getObj,Sem.run,hh D J,aB u,f1,Sem.run_pure]
   .rename_i z hf O;cases h;obtain⟨r',f1,f2⟩:=bA (φ:=φ) u hf (by simpa using h2.symm) (fun j a m p q=>h3 j a.1 a.2 m p q);cases r' with
    |some q=>exact f2.elim
    |none=>
     refine⟨_,E z z false (VR.na1 (aF O w).2),fun D J=>?_⟩;simp only[Instr.lookup,Sem.run_bind,run_underlying W,Result.andThen_ok,getObj,Sem.run,hh D J,aB u,f1,Sem.run_pure,(aF O D).1]
   .cases h
 .cases hm;simp only[Option.map_eq_some_iff]at h;obtain⟨z,O,rfl⟩:=h;obtain⟨d,hd⟩:∃d,P.underlying kt=some d:=by
   unfold R2 at u;cases J:vJ P kt with
   |none=>simp [J]at u
   |some ks=>
    have:=(S7 J).2;unfold X7 at this;split at this<;>rename_i W<;>first|exact⟨_,W⟩|cases this
  refine⟨_,E z z false (VR.na1 (aF O w).2),fun D J=>?_⟩;simp [Instr.lookup,run_underlying W,aB u,Instr.findKey,run_underlying hd,Instr.findNow,(aF O D).1]
 .cases h
end
section
variable{P:Program}{base:Bs}{w0:World}{φ:List Loc}{S:List Blk}{w:World}
theorem V9{H:N7}{size n c:Nat}{a:Option Addr}{x':Value}{l:LV}(hW:WR base w0 φ H.bs w)(h:A5 H size (.slice a n c)=some l)(hx:VR φ (.slice a n c) x'):
  ∃a' D z,x'= .slice a' n D/\z.length=n*size/\VRs φ l z/\∀u,Cls base w0 φ H.bs w u->∀k,k<=n->(Builtin.firstCells size k x').run P u= .ok (z.take (k*size)).toArray u:=by
 unfold A5 at h;split at h
 .rename_i c0 e;cases e;cases h;cases hx;exact⟨none,0,[],rfl,by simp,.nil φ,fun u _ k _=>by simp [Builtin.firstCells]⟩
 .rename_i b o n0 c0 e;cases e;split at h
  .rename_i hn;subst hn;cases h;have:∀a' D,∃E J z,(Value.slice (some a') 0 D)= .slice E 0 J/\z.length=0*size/\VRs φ [] z/\∀u,Cls base w0 φ H.bs w u->∀k,k<=0->(Builtin.firstCells size k (.slice (some a') 0 D)).run P u= .ok (z.take (k*size)).toArray u:=
    fun a' D=>⟨some a',D,[],rfl,by simp,.nil φ,fun u _ k hk=>(by have h0:k=0:=oM;subst h0;simp [Builtin.firstCells,loadCells,loadCellsFrom])⟩
   cases hx<;>exact this _ _
  .rename_i hn;split at h
   rotate_left
   .cases h
   rename_i cs own sz hg;split at h
   rotate_left
   .cases h
   rename_i a2;cases h;have O:∀(lc:Loc) D,φ[b]?=some lc->∃E J z,(Value.slice (some ⟨lc.blk,lc.off+o,none⟩) n D)= .slice E n J/\z.length=n*size/\VRs φ ((cs.drop o).take (n*size)) z/\
     ∀u,Cls base w0 φ H.bs w u->∀k,k<=n->(Builtin.firstCells size k (.slice (some ⟨lc.blk,lc.off+o,none⟩) n D)).run P u= .ok (z.take (k*size)).toArray u:=by
    intro lc D U;obtain⟨ys,hv,hc⟩:=kG hW hg U;have W:((ys.drop o).take (n*size)).length=n*size:=by have:=hv.1;simp;omega
    refine⟨_,_,_,rfl,W,(hv.drop o).take (n*size),fun u X k hk=>?_⟩;simp only[Builtin.firstCells];have a1:k*size<=n*size:=Nat.mul_le_mul_right _ hk;rw[qJ (hc u X) o (k*size) (by rw[<-hv.1];omega),List.take_take,Nat.min_eq_left a1]
   cases hx with
   |slice0=>exact absurd rfl hn
   |exact U=>exact O _ _ U
   |slice U=>exact O _ _ U
 .cases h
theorem uS{l D:LV}{bs:List UInt8}(h:l.mapM dd=some bs)(E:VRs φ l D):D=l:=by
 induction l generalizing D bs with
 |nil=>exact E.of_nil
 |cons x xs W=>
  obtain⟨y,X,rfl,J,O⟩:=E.of_cons;simp only[List.mapM_cons,Option.bind_eq_bind,Option.pure_def]at h;cases u:dd x with
  |none=>simp [u]at h
  |some b=>
   cases z:xs.mapM dd with
   |none=>simp [u,z]at h
   |some r=>
    have U:y=x:=by
     unfold dd at u;split at u
     .cases J;rfl
     .cases u
    rw[U,W z O]
theorem wq(l:LV):∀(u:ByteArray)(bs:List UInt8)(w:World),l.mapM dd=some bs->
  (forIn l u (fun c s=>(match c with
   | .int .u8 n=>pure (ForInStep.yield (s.push (UInt8.ofNat n.toNat)))
   |_=>(do stuck "bytesToString: byte expected";pure (ForInStep.yield s)):Sem (ForInStep ByteArray)))).run P w= .ok ⟨u.data++bs.toArray⟩ w:=by
 induction l with
 |nil=>intro u bs w h;simp at h;subst h;simp
 |cons x xs E=>
  intro u bs w h;simp only[List.mapM_cons,Option.bind_eq_bind,Option.pure_def]at h;cases z:dd x with
  |none=>simp [z]at h
  |some b=>
   cases D:xs.mapM dd with
   |none=>simp [z,D]at h
   |some r=>
    simp [z,D]at h;subst h;unfold dd at z;split at z
    .cases z;rw[List.forIn_cons];simp only[Sem.run_bind,Sem.run_pure,Result.andThen_ok,E _ _ w D]
     congr 2
     simp [ByteArray.push]
    .cases z
theorem BX{E:Nat}{e:Env}{ts:Array Value}(z:ts.size=E/\∀t,VR φ (e.get t) (ts.getD t undef)) {a:Act} (D:a.tmps=ts) {x:Operand} (u:C5 x=true):VR φ (opv e x) (a.eval x):=by
 cases x with
 |tmp t=>simpa [opv,Act.eval,D] using z.2 t
 |const v=>exact VR.na u
 |global g=>cases u
 |func f=>exact .func f rfl (fun i x y p=>by simp at p) rfl (fun i x y p=>by simp at p)
end
section
variable{P:Program}{base:Bs}{w0:World}{φ:List Loc}{S:List Blk}{w:World}
theorem Cls.drew{u:World}(h:Cls base w0 φ S w u):Cls base w0 φ S w u.drew:=
 ⟨h.wr.same_heap rfl rfl rfl rfl,fun b B l p q r=>h.same b B l p q r⟩
theorem ph(z:Array Value)(n:Nat):(Builtin.zeroCells z n).size=n*z.size:=by simp [Builtin.zeroCells]
theorem pU{H:N7}(hW:WR base w0 φ H.bs w){ts:List TypeId}{e size J n:Nat}{x x':Value}{xs:LV}{z:LV}(he:ts.head?.bind (I5 P)=some e)(hs:D8 P e=some size)(hb:V0 P e=some J)
  (hz:O9 P e=some z) (b8:J≠0) (h:aY P H size (ts[1]?) x=some (n,xs)) (hx:VR φ x x'):
  ∃xs',VRs φ xs xs'/\xs'.length=n*size/\∀E,Cls base w0 φ H.bs w E->∀bs u D ty,((u+n)*J<=140737488355328\/n=0)->(n=0->u<=D)->
   (u+n<=D->(Builtin.append_ ts.toArray ty #[.slice bs u D,x']).run P E=(match bs with
    |some a=>(storeCells (a.add (u*size)) xs').run P E
    |none=> .ok () E).andThen fun _ w2=> .ok (.slice bs (u+n) D) w2)/\
   (¬u+n<=D->∀old:LV,(∀w2,Cls base w0 φ H.bs w w2->(Builtin.firstCells size u (.slice bs u D)).run P w2= .ok old.toArray w2)->
    ∃k rest,rest.length=k*size/\(Builtin.append_ ts.toArray ty #[.slice bs u D,x']).run P E=
     .ok (.slice (some ⟨E.heap.size,0,none⟩) (u+n) (u+n+k)) (E.drew.alloc (.cells (old++xs'++rest).toArray e))):=by
 obtain⟨t,ts,rfl⟩:∃t r,ts=t::r:=by cases ts with
  |nil=>simp at he
  |cons t r=>exact⟨t,r,rfl⟩
 have hu:=Z0 (by simpa using he);obtain⟨i,hi,a9⟩:∃i,P.info? e=some i/\i.bytes=J:=by
  unfold V0 at hb;cases hi:P.info? e with
  |none=>simp [hi]at hb
  |some i=>simp [hi]at hb;exact⟨i,rfl,hb⟩
 obtain⟨U,d,a1,W,b2,a4,xs',hv,hl,hf⟩:∃U d,ts[0]?=some U/\P.underlying U=some d/\(d= .string\/∃e',d= .slice e')/\(∀E,(Builtin.lenOf x').run P E= .ok n E)/\
   ∃xs',VRs φ xs xs'/\xs'.length=n*size/\∀E,Cls base w0 φ H.bs w E->(Builtin.firstCells size n x').run P E= .ok xs'.toArray E:=by
  unfold aY at h;have a3:∀d,(((t::ts)[1]?).bind P.underlying)=some d->∃U,ts[0]?=some U/\P.underlying U=some d:=by
   intro d W;simp only[List.getElem?_cons_succ]at W;cases a1:ts[0]? with
   |none=>simp [a1]at W
   |some U=>exact⟨U,rfl,by simpa [a1] using W⟩
  split at h
  .rename_i ee a m c W;obtain⟨U,h1,h2⟩:=a3 _ W;simp only[Option.map_eq_some_iff,Prod.mk.injEq]at h;obtain⟨l,hl,rfl,rfl⟩:=h;obtain⟨a',c',l',rfl,e1,e2,e3⟩:=V9 hW hl hx;exact⟨U,_,h1,h2,.inr ⟨_,rfl⟩,fun E=>rfl,l',e2,e1,fun E hc=>by rw[e3 E hc _ lR,List.take_of_length_le oM]⟩
  .rename_i s W;obtain⟨U,h1,h2⟩:=a3 _ W;split at h
   .rename_i b3;simp only[Option.some.injEq,Prod.mk.injEq]at h;obtain⟨rfl,rfl⟩:=h;cases hx;refine⟨U,_,h1,h2,.inl rfl,fun E=>rfl,s.data.toList.map S0,VRs.map _ _ _ (fun b _=> .int _ _),by subst b3;simp,fun E _=>?_⟩;simp only[Builtin.firstCells,Sem.run_pure]
    congr 1
    have:s.extract 0 s.size=s:=sM;rw[this];apply Array.toList_inj.1;simp only[Array.toList_map];rfl
   .cases h
  .cases h
 refine⟨xs',hv,hl,fun E hc bs u D ty X b0=>?_⟩;have h1:(t::ts).toArray[1]?=some U:=by simpa using a1
 have g0:(t::ts).toArray[0]?=some t:=sM;have b5:(typeInfo e).run P E= .ok i E:=by simp [typeInfo,hi]
 obtain⟨zv,b7,b6,b9,a7⟩:=cL hz E.drew;have b4:zv.cells.size=size:=by
  rw[hs]at a7;cases a7;rw[<-b6];simp
 simp only[Builtin.append_];simp only[g0,h1,List.getElem?_toArray,List.getElem?_cons_zero,List.getElem?_cons_succ,Sem.run_bind,run_underlying hu,run_underlying W,Result.andThen_ok,C1 hs,Sem.run_pure,
  ]
 clear W;rcases b2 with rfl|⟨_,rfl⟩
 all_goals
  simp only[bF,a4,Bool.not_false,if_true,Sem.run_bind,Result.andThen_ok];refine⟨fun O=>?_,fun O old a5=>?_⟩
  .simp only[if_pos O,Sem.run_bind,hf E hc,Result.andThen_ok];cases bs<;>simp
  .have hn:n≠0:=fun h0=>O (by subst h0;simpa using b0 rfl);have a2:=X.resolve_right hn;have b1:u+n<=140737488355328:=by
    have:1<=J:=oM
    calc u+n=(u+n)*1:=sM
     _<=(u+n)*J:=Nat.mul_le_mul_left _ this
     _<=_:=a2
   have c1:¬(((u+n:Nat):Int)>IntKind.i64.max/\(False\/i.bytes=0)):=by rintro⟨h,_⟩;simp at h;omega
   have c2:¬Builtin.nextslicecap (u+n) D*i.bytes>2 ^ 48:=by
    have:=growslice_fits (need:=u+n) (old:=D) (bytes:=J) oM a2;rw[a9];omega
   have a6:(typeInfo e).run P E.drew= .ok i E.drew:=by simp [typeInfo,hi]
   have a8:(choose (Question.appendCap (u+n) D e)).run P E= .ok (u+n+E.tape E.drawn (.appendCap (u+n) D e) % (2 ^ 63-(u+n))) E.drew:=by
    rw[run_choose,if_neg (by simp [Question.forced])];rfl
   simp only[if_neg O,Sem.run_bind,b5,Result.andThen_ok,if_neg c1,if_neg c2,run_askRoom,a8,a6,a5 _ hc.drew,hf _ hc.drew,b7,newRow,newObj,Sem.run,Sem.run_pure];generalize E.tape E.drawn (.appendCap (u+n) D e) % (2 ^ 63-(u+n))=k;refine⟨k,(Builtin.zeroCells zv.cells (u+n+k-(u+n))).toList,?_,?_⟩
   .rw[Array.length_toList,ph,b4];congr 1;omega
   .have e1:old.toArray++xs'.toArray++Builtin.zeroCells zv.cells (u+n+k-(u+n))=(old++xs'++(Builtin.zeroCells zv.cells (u+n+k-(u+n))).toList).toArray:=by
     apply Array.toList_inj.1;simp
    rw[e1];rfl
end
def E5(w:World)(g:Nat)(o:Obj):World:={w with heap:=w.heap.setIfInBounds g o}
section
variable{P:Program}{base:Bs}{w0:World}{φ:List Loc}{S:List Blk}{w:World}
theorem F9(w:World)(g:Nat)(o:Obj)(u:g<w.heap.size):(E5 w g o).heap[g]?=some o:=by simp [E5,u]
theorem aG(w:World)(g j:Nat)(o:Obj)(h:g≠j):(E5 w g o).heap[j]?=w.heap[j]?:=by simp [E5,h]
theorem pJ(w:World)(g:Nat)(o u:Obj):E5 (E5 w g o) g u=E5 w g u:=by simp [E5]
theorem bu(w:World)(g:Nat)(o:Obj):But w (E5 w g o) (some g):=⟨by simp [E5],fun j _ h=>aG w g j o (fun e=>h (by rw[e]))⟩
theorem R7{w:World}{g:Nat}{o:Obj}(h:Bel base.pr w0 w)(z:¬base.pr g):Bel base.pr w0 (E5 w g o):=
 ⟨h.os,h.tape,h.output,by simpa [E5] using h.size,fun k u=>by rw[aG w g k o (fun q=>z (q▸u))];exact h.block k u⟩
theorem vy{w:World}{g:Nat}{o:Obj}(h:w.heap[g]?=some o):E5 w g o=w:=by
 obtain⟨z,u⟩:=gA h;unfold E5;have:w.heap.setIfInBounds g o=w.heap:=by
  apply Array.ext_getElem?;intro i;rw[Array.getElem?_setIfInBounds];split
  .rename_i D;subst D;simp [z,u]
  .rfl
 rw[this]
theorem gC{w:World}{g p:Nat}{cs:Array Value}{t:TypeId}{z:Nat×Nat}(h:w.heap[g]?=some (.cells cs t z))(v:Value):
  w.setCell ⟨g,p,none⟩ v=E5 w g (.cells (cs.setIfInBounds p v) t z):=by
 unfold World.setCell E5
 congr 1
 apply Array.ext_getElem?;intro i;rw[Array.getElem?_modify,Array.getElem?_setIfInBounds];by_cases D:g=i
 .subst D;have u:=(gA h).1;simp only[if_true,h,Option.map_some,u,Option.isSome_none,bF]
 .simp [D]
theorem aJ(g o:Nat)(t:TypeId)(z:Nat×Nat):∀(u:LV)(i:Nat)(cs:Array Value)(w:World),w.heap[g]?=some (.cells cs t z)->o+i+u.length<=cs.size->
  (∀p,p<o+i+u.length->w.frozen? ⟨g,p,none⟩=false)->(∀v∈u,v.oneCell'=true)->
  (storeCells ⟨g,o,none⟩ u i).run P w= .ok () (E5 w g (.cells (splice cs.toList (o+i) u).toArray t z))
 |[],i,cs,w,hg,_,_,_=>by
  simp only[storeCells,Sem.run_pure,splice,Array.toArray_toList];rw[vy hg]
 |v::u,i,cs,w,hg,hl,hf,h1=>by
  simp only[List.length_cons]at hl hf;have U:w.cell? ⟨g,o+i,none⟩=some cs[o+i]:=by
   unfold World.cell?;simp only[hg,Option.isSome_none,bF];simp
  have D:=hf (o+i) oM;have O:(store ((⟨g,o,none⟩:Addr).add i) v).run P w= .ok () (w.setCell ⟨g,o+i,none⟩ v):=by
   rw[Addr.add_none,run_store P w _ v _ (h1 v sM),U];simp only[D,bF]
  have J:=(gA hg).1;have E:=F9 w g (.cells (cs.setIfInBounds (o+i) v) t z) J;simp only[storeCells,Sem.run_bind,O,Result.andThen_ok,gC hg];rw[aJ g o t z u (i+1) _ _ E (by simp;omega) (fun p X=>?_) (fun v W=>h1 v (by simp [W]))]
  .rw[pJ];simp only[splice,Array.toList_setIfInBounds];rw[Nat.add_assoc]
  .have:=hf p oM;rw[<-gC hg,World.frozen?_setCell];exact this
theorem Y9:∀(xs:LV)(c:LV)(o i:Nat),o+xs.length<=c.length->(splice c o xs)[i]?=if o<=i/\i<o+xs.length then xs[i-o]? else c[i]?
 |[],c,o,i,h=>by simp [splice];omega
 |x::xs,c,o,i,h=>by
  simp only[List.length_cons]at h;rw[splice,Y9 xs (c.set o x) (o+1) i (by simp;omega)];simp only[List.length_cons,List.getElem?_set];by_cases u:o=i
  .subst u;have:¬(o+1<=o/\o<o+1+xs.length):=oM;simp [this,show o<c.length from oM]
  .by_cases z:o+1<=i/\i<o+1+xs.length
   .rw[if_pos z,if_pos oM,show i-o=(i-(o+1))+1 from oM];simp
   .rw[if_neg z,if_neg u,if_neg oM]
theorem fa:∀(xs c:LV)(o:Nat)(v:Value),v∈splice c o xs->v∈c\/v∈xs
 |[],c,o,v,h=> .inl h
 |x::xs,c,o,v,h=>by
  rcases fa xs (c.set o x) (o+1) v h with h|h
  .rcases List.mem_or_eq_of_mem_set h with h|h
   .exact .inl h
   .exact .inr (by simp [h])
  .exact .inr (by simp [h])
theorem WR.alloc{w1:World}(h:WR base w0 φ S w)(D:w1.heap=w.heap)(ho:w1.os=w.os)(ht:w1.tape=w.tape)(hu:w1.output=w.output){c xs rest:LV}{e:TypeId}{sz:Nat}(X:VRs φ c xs)(E:∀x∈c,x.oneCell'=true):
  WR base w0 (φ++[⟨w.heap.size,0,xs.length+rest.length,sz⟩]) (S++[.cells c true sz]) (w1.alloc (.cells (xs++rest).toArray e))/\
   ∀(k:Nat)(o:Obj),w.heap[k]?=some o->(w1.alloc (.cells (xs++rest).toArray e)).heap[k]?=some o:=by
 have z:∀k,k<w.heap.size->(w1.alloc (.cells (xs++rest).toArray e)).heap[k]?=w.heap[k]?:=fun k J=>by
  rw[Below.heap_alloc _ _ _ (by rw[D];exact J),D]
 have u:(w1.alloc (.cells (xs++rest).toArray e)).heap[w.heap.size]?=some (.cells (xs++rest).toArray e):=by
  rw[<-D];exact heap_alloc_new w1 _
 refine⟨h.push (l:=⟨w.heap.size,0,xs.length+rest.length,sz⟩) ⟨by simp [D],fun j hj _=>z j hj⟩ ?_ (fun _=>lR) ?_,fun k o J=>by rw[z k (gA J).1];exact J⟩
 .exact(h.same_heap D ho ht hu).below.alloc (by rw[D];exact h.size) _
 .have U:=Ext.snoc φ ⟨w.heap.size,0,xs.length+rest.length,sz⟩;refine⟨rfl,E,fun i x W=>?_,(by intro hf;cases hf),fun _=>⟨dV h.size,by show c.length<=xs.length+rest.length;rw[X.1];omega,_,e,(0,0),u,by simp,fun i W=>?_⟩⟩
  .obtain⟨y,hy,hv⟩:=X.get W;refine⟨y,?_,hv.mono U⟩;unfold World.cell?;simp only[u,Option.isSome_none,bF,Nat.zero_add];have O:i<xs.length:=(gS hy).1;simp [List.getElem?_append_left O,hy]
  .unfold World.frozen?;simp only[u];simp
def bK(P:Program)(base:Bs)(w0:World)(φ:List Loc)(S:List Blk)(low:Nat)(S':List Blk)(w:World)(s:Sem Value)(v:Value):Prop:=
 ∃v' w' φ',s.run P w= .ok v' w'/\Ext φ φ'/\VR φ' v v'/\WR base w0 φ' S' w'/\Fr φ S low w w'
theorem Fr.of_old{D:Nat}{J:World}(h:WR base w0 φ S w)(W:∀(k:Nat)(o:Obj),w.heap[k]?=some o->J.heap[k]?=some o):Fr φ S D w J:=by
 intro b B l _ O U X;have u:=h.blk b B l O X;have:∃o,w.heap[l.blk]?=some o:=by
  by_cases z:B.mine=true
  .have:=(u.lt z).2;exact⟨_,Array.getElem?_eq_getElem this⟩
  .cases B with
   |dead=>exact absurd rfl U
   |cells c own sz=>
    have:own=false:=by simpa [Blk.mine] using z
    subst this;exact⟨_,Array.getElem?_eq_getElem (h.size _ u.below)⟩
   |map es=>exact absurd rfl z
   |iter s p=>exact absurd rfl z
 obtain⟨o,E⟩:=this;rw[E,W _ _ E]
theorem Fr.of_put{D b:Nat}{B:Blk}{l:Loc}{o:Obj}(h:WR base w0 φ S w)(J:S[b]?=some B)(O:φ[b]?=some l)(W:B.mine=true)(U:D<=b):Fr φ S D w (E5 w l.blk o):=by
 intro c C lc hc E hd z;refine aG w _ _ _ ?_;by_cases u:C.mine=true
 .exact h.sep b c B C l lc oM J E W u O z
 .cases C with
  |dead=>exact absurd rfl hd
  |cells cc own sz=>
   have:own=false:=by simpa [Blk.mine] using u
   subst this;have X:=(h.blk c _ lc E z).below;have h2:=((h.blk b B l J O).lt W).1;exact fun q=>h2 (q▸X)
  |map es=>exact absurd rfl u
  |iter s p=>exact absurd rfl u
theorem Cx{t:TypeId}{H H':N7}{a x a' D:Value}(hW:WR base w0 φ H.bs w)(h:sto P t H a x=some H')(ha:VR φ a a')(hx:VR φ x D):
  ∃w',(Instr.storeAt t a' D).run P w= .ok () w'/\WR base w0 φ H'.bs w'/\Fr φ H.bs H'.low w w':=by
 unfold sto at h;split at h
 rotate_left
 .cases h
 rename_i b o;split at h
 rotate_left
 .cases h
 rename_i c sz hg;split at h
 rotate_left
 .cases h
 rename_i J;obtain⟨hs,a5,u⟩:=J;cases h;cases ha with
 |ptr hl=>
  rename_i l;obtain⟨l',a4,a8⟩:=hW.loc hg;rw[hl]at a4;cases a4;obtain⟨h0,O,h1,h2,h3⟩:=a8;obtain⟨hb,a2,cs,tt,fz,hh,b2,a3⟩:=h3 rfl;have a1:=hx.cells u;have a7:=a1.1;have W:∀v∈D.cells.toList,v.oneCell'=true:=by
   intro v X;obtain⟨i,hi⟩:=List.getElem?_of_mem X;have a9:i<x.cells.toList.length:=by rw[a7];exact(gS hi).1
   have:=a1.2 i x.cells.toList[i] v (by simp [a9]) hi;have ho:=List.all_eq_true.1 u x.cells.toList[i] sM;rw[this.oneCell ho];exact ho
  have a6:=aJ (P:=P) l.blk (l.off+o) tt fz D.cells.toList 0 cs w hh oM (fun p hp=>a3 p oM) W;refine⟨E5 w l.blk (.cells (splice cs.toList (l.off+o+0) D.cells.toList).toArray tt fz),?_,hW.put (l:=l) hg hl rfl (bu w l.blk _) (R7 hW.below hb) ?_,Fr.of_put hW hg hl rfl (Nat.min_le_right _ _)⟩
  .have b1:D.cells.toList.length=x.cells.toList.length:=a7.symm;have:D.cells.size=x.cells.toList.length:=by rw[<-b1];simp
   simp only[Instr.storeAt,Instr.sureAddr,storeVar,Sem.run_bind,Sem.run_pure,Result.andThen_ok,C1 hs,this,ne_eq,not_true_eq_false,if_false];exact a6
  .have U:=(gA hh).1;refine⟨h0,fun v X=>(fa _ _ _ v X).elim (O v) (fun h=>List.all_eq_true.1 u v h),fun i y hy=>?_,(by intro hf;cases hf),fun _=>⟨hb,by rw[E3];exact a2,_,tt,fz,F9 w _ _ U,by simp [E3];exact b2,fun i hi=>?_⟩⟩
   .rw[Y9 _ _ _ _ a5]at hy;have E:∀j,(E5 w l.blk (.cells (splice cs.toList (l.off+o+0) D.cells.toList).toArray tt fz)).cell? ⟨l.blk,j,none⟩=(splice cs.toList (l.off+o) D.cells.toList)[j]?:=by
     intro j;unfold World.cell?;simp [F9 w _ _ U]
    rw[E,Y9 _ _ _ _ (by have:cs.toList.length=cs.size:=sM;omega)];split at hy
    .rename_i b0;obtain⟨z,hz,X⟩:=a1.get hy;refine⟨z,?_,X⟩;rw[if_pos oM,show l.off+i-(l.off+o)=i-o from oM];exact hz
    .rename_i b0;obtain⟨z,hz,X⟩:=h1 i y hy;refine⟨z,?_,X⟩;rw[if_neg oM];unfold World.cell? at hz
     simpa [hh] using hz
   .have:=a3 i hi;unfold World.frozen? at this ⊢;simp only[hh]at this;simp only[F9 w _ _ U];exact this
theorem jA{l:LV}(h:l.all Ve.na0=true):∀x∈l,x.oneCell'=true:=fun x u=>by
 have:=List.all_eq_true.1 h x u;unfold Ve.na0 at this;split at this<;>first|rfl|cases this
theorem Q2{l:Loc}(u:WR base w0 φ S w):(φ++[l])[S.length]?=some l:=by rw[<-u.len];simp
theorem cF{H:N7}(D:WR base w0 φ H.bs w){s:Sem Value}{c xs rest:LV}{e:TypeId}{sz z:Nat}{v v':Value}{w1:World}(O:w1.heap=w.heap)(U:w1.os=w.os)(X:w1.tape=w.tape)(hu:w1.output=w.output)
  (hx:VRs φ c xs) (u:∀x∈c,x.oneCell'=true) (W:s.run P w= .ok v' (w1.alloc (.cells (xs++rest).toArray e))) (hv:VR (φ++[⟨w.heap.size,0,xs.length+rest.length,sz⟩]) v v'):
  bK P base w0 φ H.bs z (H.push (.cells c true sz)).bs w s v:=by
 obtain⟨E,J⟩:=D.alloc (e:=e) (rest:=rest) (sz:=sz) O U X hu hx u;exact⟨v',_,_,W,Ext.snoc _ _,hv,E,Fr.of_old D J⟩
theorem tg{H:N7}(E:WR base w0 φ H.bs w){t:TypeId}{z:LV}(U:O9 P t=some z)(u:Nat):
  bK P base w0 φ H.bs u (H.push (.cells z true 1)).bs w (Instr.alloc t true (.tuple #[])) (.pointer (some ⟨H.next,0,none⟩)):=by
 obtain⟨W,J,O,D,X⟩:=cL U w;subst O;refine cF E (w1:=w) (xs:=W.cells.toList) (rest:=[]) (e:=t) rfl rfl rfl rfl (VRs.na0 D) (jA D) (v':= .pointer (some ⟨w.heap.size,0,none⟩)) ?_ ?_
 .simp only[Instr.alloc,Sem.run_bind,J,Result.andThen_ok,newVar,newRow,newObj,Sem.run,Sem.run_pure,List.append_nil,Array.toArray_toList];rfl
 .exact VR.ptr (l:=⟨w.heap.size,0,_,1⟩) (o:=0) (Q2 E)
theorem Ax{H:N7}(J:WR base w0 φ H.bs w){t:TypeId}{x E:Value}(z:VR φ x E)(u:x.cells.toList.all oC=true)(D:Nat):
  bK P base w0 φ H.bs D (H.push (.cells x.cells.toList true 1)).bs w (Instr.box t E) (.pointer (some ⟨H.next,0,none⟩)):=by
 refine cF J (w1:=w) (xs:=E.cells.toList) (rest:=[]) (e:=t) rfl rfl rfl rfl (z.cells u) (fun x z=>List.all_eq_true.1 u x z) (v':= .pointer (some ⟨w.heap.size,0,none⟩)) ?_ ?_
 .simp only[Instr.box,Sem.run_bind,newVar,newRow,newObj,Sem.run,Sem.run_pure,Result.andThen_ok,List.append_nil,Array.toArray_toList];rfl
 .exact VR.ptr (l:=⟨w.heap.size,0,_,1⟩) (o:=0) (Q2 J)
theorem Mm(z:LV)(n:Nat)(J:z.length≠0):((List.range (n*z.length)).map fun i=>z.toArray[i % z.toArray.size]!)=(List.replicate n z).flatten:=by
 induction n with
 |zero=>simp
 |succ n D=>
  rw[Nat.succ_mul,List.range_add,List.map_append,D,List.replicate_succ',List.flatten_append]
  congr 1
  simp only[List.map_map,List.flatten_cons,List.flatten_nil,List.append_nil];apply List.ext_getElem
  .simp
  .intro i u E;simp only[List.length_map,List.length_range]at u;simp only[List.getElem_map,List.getElem_range,Function.comp_apply,List.size_toArray];rw[Nat.mul_add_mod_self_right,Nat.mod_eq_of_lt u];simp [u]
theorem un{z:Nat->Option (Nat×Nat)}:∀{u:List (Nat×Value)}{cs l:LV},T4 z cs u=some l->(∀x∈cs,x.oneCell'=true)->(∀p∈u,∀x∈p.2.cells.toList,x.oneCell'=true)->∀x∈l,x.oneCell'=true:=by
 intro u;induction u with
 |nil=>intro cs l h D _;simp only[T4,Option.some.injEq]at h;subst h;exact D
 |cons p u U=>
  intro cs l h D E;obtain⟨i,v⟩:=p;simp only[T4]at h;split at h
  .cases h
  .split at h
   .cases h
   .exact U h (fun x O=>(fa _ _ _ x O).elim (D x) (E (i,v) sM x)) (fun p J=>E p (by simp [J]))
theorem jW{H H':N7}(hW:WR base w0 φ H.bs w){t:TypeId}{u:Nat}{E D:List (Nat×Value)}{v:Value}(h:Q7 P H t u E=some (v,H'))(hp:iY φ E D)(a1:Nat):
  bK P base w0 φ H.bs a1 H'.bs w (Instr.buildSlice t u D.toArray) v:=by
 unfold Q7 at h;split at h
 rotate_left
 .cases h
 rename_i e he;have hu:=Z0 he;split at h
 rotate_left
 .cases h
 rename_i z hz;split at h
 .cases h
 rename_i hb;split at h
 rotate_left
 .cases h
 rename_i cs W;cases h;obtain⟨J,h1,h2,h3,h4⟩:=cL hz w;subst h2;have X:J.cells.toList.length≠0:=fun h=>hb (.inl h);have a2:J.cells.size=J.cells.toList.length:=sM;obtain⟨cs',e1,e2⟩:=eO W (φ:=φ) (cs':=(List.replicate u J.cells.toList).flatten) (VRs.na0 (by
  simp only[List.all_flatten,List.all_replicate];simp [h3])) hp
 refine cF hW (w1:=w) (xs:=cs') (rest:=[]) (e:=e) rfl rfl rfl rfl e2 (un W (jA (by simp only[List.all_flatten,List.all_replicate];simp [h3])) (fun p hp=>by
   have:=(Bool.not_eq_false _).mp (fun h=>hb (.inr (.inr h)));exact fun x hx=>List.all_eq_true.1 (List.all_eq_true.1 this p hp) x hx)) (v':= .slice (some ⟨w.heap.size,0,none⟩) u u) ?_ ?_
 .have O:(Array.range (u*J.cells.toList.length)).map (fun i=>J.cells[i % J.cells.size]!)=(List.replicate u J.cells.toList).flatten.toArray:=by
   apply Array.toList_inj.1;rw[<-Mm J.cells.toList u X];simp
  have c1:¬u*J.cells.toList.length>2 ^ 24:=oM;by_cases U:u*J.cells.toList.length=0
  .have:u=0:=by
    rcases Nat.mul_eq_zero.1 U with h|h
    .exact h
    .exact absurd h X
   subst this;simp only[List.replicate_zero,List.flatten_nil]at e1;simp only[Instr.buildSlice,Sem.run_bind,run_underlying hu,Result.andThen_ok,C1 h4,if_neg c1,U,if_true,Sem.run_pure];simp only[Array.range_zero',Array.map_empty,e1,Sem.run_bind,newRow,newObj,Sem.run,Sem.run_pure,Result.andThen_ok,List.append_nil];rfl
  .simp only[Instr.buildSlice,Sem.run_bind,run_underlying hu,Result.andThen_ok,C1 h4,if_neg c1,if_neg U,h1,Sem.run_pure,O,e1,newRow,newObj,Sem.run,List.append_nil];rfl
 .exact VR.exact (l:=⟨w.heap.size,0,_,_⟩) (o:=0) (Q2 hW)
theorem lJ{H H':N7}(hW:WR base w0 φ H.bs w){t:TypeId}{x y x' y' v:Value}(h:N0 P H t x y=some (v,H'))(hx:VR φ x x')(hy:VR φ y y')(a6:Nat):
  bK P base w0 φ H.bs a6 H'.bs w (Instr.makeSlice t x' y') v:=by
 unfold N0 at h;split at h
 rotate_left
 .cases h
 rename_i e k n k' m he;have hu:=Z0 he;split at h
 rotate_left
 .cases h
 rename_i z a4 hz E;split at h
 rotate_left
 .cases h
 rename_i O;obtain⟨a2,a9,b0,a7,a8⟩:=O;cases h;cases hx;cases hy;obtain⟨u,h1,h2,h3,h4⟩:=cL hz w;subst h2;obtain⟨i,hi,W⟩:∃i,P.info? e=some i/\i.bytes=a4:=by
  unfold V0 at E;cases hi:P.info? e with
  |none=>simp [hi]at E
  |some i=>simp [hi]at E;exact⟨i,rfl,E⟩
 have a1:(typeInfo e).run P w= .ok i w:=by simp [typeInfo,hi]
 have wn:IntKind.i64.wrap n=n:=wrap_small n oM oM;have wm:IntKind.i64.wrap m=m:=wrap_small m oM oM;have D:(List.replicate m.toNat u.cells.toList).flatten=(List.replicate n.toNat u.cells.toList).flatten++(List.replicate (m.toNat-n.toNat) u.cells.toList).flatten:=by
  rw[<-List.flatten_append,List.replicate_append_replicate]
  congr 2
  omega
 have X:((List.replicate n.toNat u.cells.toList).flatten.length+(List.replicate (m.toNat-n.toNat) u.cells.toList).flatten.length)=m.toNat*u.cells.toList.length:=by
  rw[<-List.length_append,<-D];simp
 refine cF hW (w1:=w) (xs:=(List.replicate n.toNat u.cells.toList).flatten) (rest:=(List.replicate (m.toNat-n.toNat) u.cells.toList).flatten) (e:=e) rfl rfl rfl rfl
  (VRs.na0 (by simp only[List.all_flatten,List.all_replicate];simp [h3])) (jA (by simp only[List.all_flatten,List.all_replicate];simp [h3])) (v':= .slice (some ⟨w.heap.size,0,none⟩) n.toNat m.toNat) ?_ ?_
 .rw[<-D];have c1:¬(m<0\/(i.bytes:Int)*m>2 ^ 48):=by rw[W];omega
  have c2:¬((decide (m<0)||decide ((i.bytes:Int)*m>2 ^ 48)||decide (n<0)||decide (n>m))=true):=by
   rw[W];simp only[Bool.or_eq_true,decide_eq_true_eq];omega
  have a3:(if m.toNat*u.cells.toList.length=0 then(#[]:Array Value) else u.cells)=u.cells\/m.toNat*u.cells.toList.length=0:=by
   by_cases U:m.toNat*u.cells.toList.length=0
   .exact .inr U
   .left;rw[if_neg U]
  have J:(Array.range (m.toNat*u.cells.toList.length)).map (fun i=>u.cells[i % u.cells.size]!)=(List.replicate m.toNat u.cells.toList).flatten.toArray:=by
   apply Array.toList_inj.1;rw[<-Mm u.cells.toList m.toNat a2];simp
  by_cases U:m.toNat*u.cells.toList.length=0
  .have a5:m.toNat=0:=by
    rcases Nat.mul_eq_zero.1 U with h|h
    .exact h
    .exact absurd h a2
   simp only[Instr.makeSlice,Sem.run_bind,run_underlying hu,Result.andThen_ok,asInt,asIntOf,Sem.run_pure,a1,wn,wm,c2,if_false,run_askRoom,C1 h4,U,if_true,newRow,newObj,Sem.run];simp only[a5,Sem.run_bind,run_askRoom,C1 h4,Nat.zero_mul,if_true,Sem.run_pure,Sem.run,Array.range_zero',Array.map_empty,List.replicate_zero,List.flatten_nil,bF,Result.andThen_ok];rfl
  .simp only[Instr.makeSlice,Sem.run_bind,run_underlying hu,Result.andThen_ok,asInt,asIntOf,Sem.run_pure,a1,wn,wm,c2,if_false,run_askRoom,C1 h4,if_neg U,h1,newRow,newObj,Sem.run,J,Bool.false_eq_true];rfl
 .refine VR.slice (l:=⟨w.heap.size,0,_,_⟩) (o:=0) (Q2 hW) oM ?_;simp only[Nat.zero_add];rw[X];exact lR
theorem vd{H:N7}(z:WR base w0 φ H.bs w){B:Blk}{o:Obj}(E:∀O,BR base O B ⟨w.heap.size,0,0,0⟩ (w.alloc o)):WR base w0 (φ++[⟨w.heap.size,0,0,0⟩]) (H.push B).bs (w.alloc o)/\∀u,Fr φ H.bs u w (w.alloc o):=by
 refine⟨z.push (l:=⟨w.heap.size,0,0,0⟩) ⟨by simp,fun j J _=>Below.heap_alloc _ _ _ J⟩ (z.below.alloc z.size _) (fun _=>lR) (E _),fun u=>Fr.of_old z fun k U D=>?_⟩;rw[Below.heap_alloc _ _ _ (gA D).1];exact D
theorem pC{H:N7}(z:WR base w0 φ H.bs w)(t:TypeId)(u:Nat):
  bK P base w0 φ H.bs u (H.push (.map [])).bs w (Instr.makeMap t none) (.map (some H.next)):=by
 obtain⟨D,E⟩:=vd z (B:= .map []) (o:= .map #[] 0) (fun J=>⟨dV z.size,#[],0,heap_alloc_new w _,rfl,fun i k v m p=>by simp at p⟩);refine⟨.map (some w.heap.size),w.alloc (.map #[] 0),_,?_,Ext.snoc _ _,VR.map (l:=⟨w.heap.size,0,0,0⟩) (Q2 z),D,E u⟩;simp only[Instr.makeMap,Sem.run_bind,newObj,Sem.run,Result.andThen_ok,Sem.run_pure];rfl
theorem vi{H:N7}(z:WR base w0 φ H.bs w){t:TypeId}{s:ByteArray}(J:P.underlying t=some .string)(u:Nat):
  bK P base w0 φ H.bs u (H.push (.iter s 0)).bs w (Instr.range t (.string s)) (.pointer (some ⟨H.next,0,none⟩)):=by
 obtain⟨D,E⟩:=vd z (B:= .iter s 0) (o:= .stringIter s 0) (fun O=>⟨dV z.size,rfl,heap_alloc_new w _⟩);refine⟨.pointer (some ⟨w.heap.size,0,none⟩),w.alloc (.stringIter s 0),_,?_,Ext.snoc _ _,VR.ptr (l:=⟨w.heap.size,0,0,0⟩) (o:=0) (Q2 z),D,E u⟩;simp only[Instr.range,Sem.run_bind,run_underlying J,Result.andThen_ok,Sem.run_pure,newObj,Sem.run];rfl
theorem mA{r:Nat}{o:Obj}{w:World}(h:w.heap[r]?=some o)(u:∀c t f,o≠ .cells c t f):(getObj r).run P w= .ok o w:=by
 unfold getObj;simp only[Sem.run,h]
 try (split<;>first|(exfalso;exact u _ _ _ rfl)|rfl)
theorem iO{r:Nat}{o u:Obj}{w:World}(h:w.heap[r]?=some o)(z:∀c t f,o≠ .cells c t f):(setObj r u).run P w= .ok () (E5 w r u):=by
 unfold setObj;simp only[Sem.run,h];cases o<;>first|rfl|exact absurd rfl (z _ _ _)
theorem BS{H H':N7}{it E v:Value}(J:WR base w0 φ H.bs w)(h:jB H it=some (v,some H'))(hi:VR φ it E)(ty:TypeId):
  bK P base w0 φ H.bs H'.low H'.bs w (Instr.next E true ty) v:=by
 unfold jB at h;split at h
 rotate_left
 .cases h
 rename_i b;split at h
 rotate_left
 .cases h
 rename_i s u U;split at h
 rotate_left
 .simp at h
 rename_i D;simp only[Option.some.injEq,Prod.mk.injEq]at h;obtain⟨rfl,rfl⟩:=h;cases hi with
 |ptr X=>
  rename_i l;obtain⟨l',z,O⟩:=J.loc U;rw[X]at z;cases z;obtain⟨hb,a1,W⟩:=O;have a2:=(gA W).1;refine⟨.tuple #[.bool true,goInt u,.int .i32 (Utf8.decode s u).1],E5 w l.blk (.stringIter s (u+(Utf8.decode s u).2)),φ,?_,Ext.refl φ,VR.na (by rfl),
   J.put (l:=l) U X rfl (bu w l.blk _) (R7 J.below hb) ⟨hb,a1,F9 w _ _ a2⟩,Fr.of_put J U X rfl (Nat.min_le_right _ _)⟩
  have hz:l.off+0=0:=oM;rw[hz];simp only[Instr.next,Sem.run_bind,mA W sM,Result.andThen_ok,if_pos D,iO W sM,Sem.run_pure]
theorem BQ{H:N7}{it D v:Value}(X:WR base w0 φ H.bs w)(h:jB H it=some (v,none))(hi:VR φ it D)(ty:TypeId):iW P base w0 φ H.bs w (Instr.next D true ty) v:=by
 unfold jB at h;split at h
 rotate_left
 .cases h
 rename_i b;split at h
 rotate_left
 .cases h
 rename_i s O U;split at h
 .simp at h
 rename_i z;simp only[Option.some.injEq,Prod.mk.injEq]at h;obtain⟨rfl,_⟩:=h;cases hi with
 |ptr W=>
  rename_i l;obtain⟨l',u,E⟩:=X.loc U;rw[W]at u;cases u;obtain⟨hb,a1,hh⟩:=E;refine⟨.tuple #[.bool false],VR.na (by rfl),fun w' hc=>?_⟩;have J:w'.heap[l.blk]?=some (.stringIter s O):=by rw[hc.same _ _ l U sM W];exact hh
  have hz:l.off+0=0:=oM;rw[hz];simp only[Instr.next,Sem.run_bind,mA J sM,Result.andThen_ok,if_neg z,Sem.run_pure]
theorem qy{k:Q5}{x:Value}(h:nJ k x=true)(n:Nat):Instr.sameBits n x x=true:=by
 unfold nJ at h;split at h
 .simp [Instr.sameBits]
 .simp [Instr.sameBits]
 .simp [Instr.sameBits,jX]
 .cases h
theorem uO{u:List Q5}{xs:LV}(h:X3 u xs=true)(n:Nat):((xs.zip xs).all fun(x,y)=>Instr.sameBits n x y)=true:=by
 induction u generalizing xs with
 |nil=>cases xs with
  |nil=>rfl
  |cons _ _=>cases h
 |cons k u z=>
  cases xs with
  |nil=>cases h
  |cons x xs=>
   simp only[X3,Bool.and_eq_true]at h;simp only[List.zip_cons_cons,List.all_cons,qy h.1,Bool.true_and];exact z h.2
theorem uL{kt:TypeId}{k:Value}(h:R2 P kt k=true):Instr.sameBits 10000 k k=true:=by
 unfold R2 at h;split at h
 .show Instr.sameBits (9999+1) _ _=true;simp only[Instr.sameBits,beq_self_eq_true,Bool.true_and];exact uO h _
 .rename_i E z u;obtain⟨D,rfl⟩:=jn (S7 z).2 u;simp only[X3,Bool.and_true]at h;exact qy h _
 .cases h
theorem lL{H H':N7}{t:TypeId}{m k v m' E v':Value}(J:WR base w0 φ H.bs w)(h:Y7 P H t m k v=some H')(hm:VR φ m m')(hk:VR φ k E)(hv:VR φ v v'):
  ∃w',(Instr.mapUpdate t m' E v').run P w= .ok () w'/\WR base w0 φ H'.bs w'/\Fr φ H.bs H'.low w w':=by
 unfold Y7 at h;split at h
 rotate_left
 .cases h
 rename_i kt et a8;have hu:=qR a8;split at h
 rotate_left
 .cases h
 rename_i z;obtain rfl:=kS z hk;split at h
 rotate_left
 .cases h
 rename_i b;split at h
 rotate_left
 .cases h
 rename_i es hg;cases hm with
 |map hl=>
  rename_i l;obtain⟨l',a4,a7⟩:=J.loc hg;rw[hl]at a4;cases a4;obtain⟨hb,u,X,h1,W,h3⟩:=a7;have a5:=(gA h1).1;split at h
  .rename_i j va hf;cases h;obtain⟨r',f1,f2⟩:=bA (φ:=φ) z hf (by simpa using W.symm) (fun j a m p q=>h3 j a.1 a.2 m p q);cases r' with
   |none=>exact f2.elim
   |some q=>
    obtain⟨j',v2⟩:=q;obtain⟨rfl,g2,g3,g4⟩:=f2;have a2:j<u.size:=by rw[W];exact(gS g3).1
    obtain⟨en,O⟩:∃en,u[j]?=some en:=⟨u[j],by simp [a2]⟩
    have a3:en.key=E:=by
     have:u.toList[j]?=some en:=by simpa using O
     rw[this]at g4;simpa using g4
    have U:(Instr.keyThatStays (((u[j]?).map (·.key)).getD E) E).run P w= .ok E w:=by
     rw[O];simp only[Option.map_some,Option.getD_some,a3,Instr.keyThatStays];rw[if_pos (uL z)];rfl
    refine⟨E5 w l.blk (.map (u.modify j fun e=>{e with key:=E,val:=v'}) X),?_,J.put (l:=l) hg hl rfl (bu w l.blk _) (R7 J.below hb) ⟨hb,_,X,F9 w _ _ a5,by simp [W],?_⟩,Fr.of_put J hg hl rfl (Nat.min_le_right _ _)⟩
    .simp only[Instr.mapUpdate,Sem.run_bind,run_underlying hu,Result.andThen_ok,mA h1 sM,aB z,f1,U,iO h1 sM]
    .intro i k1 v1 m1 p q;rw[List.getElem?_set]at p;have D:(u.modify j fun e=>{e with key:=E,val:=v'})[i]?=some m1:=by rw[Array.getElem?_toList]at q;exact q
     rw[Array.getElem?_modify]at D;by_cases a1:j=i
     .subst a1;rw[if_pos rfl]at p D;split at p
      .cases p;rw[O]at D;simp only[Option.map_some,Option.some.injEq]at D;subst D;exact⟨hk,hv⟩
      .cases p
     .rw[if_neg a1]at p D;exact h3 i k1 v1 m1 p (by simpa using D)
  .rename_i hf;cases h;obtain⟨r',f1,f2⟩:=bA (φ:=φ) z hf (by simpa using W.symm) (fun j a m p q=>h3 j a.1 a.2 m p q);cases r' with
   |some q=>exact f2.elim
   |none=>
    refine⟨E5 w l.blk (.map (u.push {key:=E,val:=v',born:=X}) (X+1)),?_,J.put (l:=l) hg hl rfl (bu w l.blk _) (R7 J.below hb) ⟨hb,_,_,F9 w _ _ a5,by simp [W],?_⟩,Fr.of_put J hg hl rfl (Nat.min_le_right _ _)⟩
    .simp only[Instr.mapUpdate,Sem.run_bind,run_underlying hu,Result.andThen_ok,mA h1 sM,aB z,f1,iO h1 sM]
    .intro i k1 v1 m1 p q;have D:(u.push {key:=E,val:=v',born:=X})[i]?=some m1:=by rw[Array.getElem?_toList]at q;exact q
     rw[Array.getElem?_push]at D;by_cases hi:i=u.size
     .rw[if_pos hi]at D;cases D;rw[hi,W]at p;simp at p;obtain⟨rfl,rfl⟩:=p;exact⟨hk,hv⟩
     .rw[if_neg hi]at D;have a6:i<es.length:=oN ((gA D).1);rw[List.getElem?_append_left a6]at p;exact h3 i k1 v1 m1 p (by simpa using D)
  .cases h
end
section
variable{P:Program}{base:Bs}{w0:World}{φ:List Loc}{S:List Blk}{w:World}
theorem WR.move{w':World}(h:WR base w0 φ S w){b:Nat}{B B2:Blk}{l l2:Loc}(hb:S[b]?=some B)(hl:φ[b]?=some l)(hm:B.mine=true)
  (hw:But w w' (some l.blk)) (a1:Bel base.pr w0 w') (he:l2.blk=l.blk) (hB:BR base (φ++[l2]) B2 l2 w'):WR base w0 (φ++[l2]) (S.set b .dead++[B2]) w':=by
 have hx:Ext φ (φ++[l2]):=Ext.snoc φ l2;have a4:=(h.blk b B l hb hl).lt hm;have old:∀(c:Nat) C,(S.set b .dead++[B2])[c]?=some C->(c<S.length/\(C= .dead\/(c≠b/\S[c]?=some C)))\/(c=S.length/\C=B2):=by
  intro c C p;by_cases z:c<S.length
  .left
   refine⟨z,?_⟩;rw[List.getElem?_append_left (by simpa using z),List.getElem?_set]at p;by_cases u:b=c
   .subst u;rw[if_pos rfl,if_pos z]at p;exact .inl (by simpa using p.symm)
   .rw[if_neg u]at p;exact .inr ⟨fun e=>u e.symm,p⟩
  .right
   have:c<(S.set b .dead++[B2]).length:=(gS p).1;simp at this;obtain rfl:c=S.length:=oM;rw[List.getElem?_append_right sM]at p;simp at p;exact⟨rfl,p.symm⟩
 have O:∀(c:Nat) lc,c<S.length->(φ++[l2])[c]?=some lc->φ[c]?=some lc:=fun c lc hc p=>by rwa [List.getElem?_append_left (by rw[h.len];exact hc)]at p
 have U:∀lc,(φ++[l2])[S.length]?=some lc->lc=l2:=fun lc p=>by rw[<-h.len]at p;simp at p;exact p.symm
 have a3:∀(c:Nat) C lc,c≠b->S[c]?=some C->C≠ .dead->φ[c]?=some lc->w'.heap[lc.blk]?=w.heap[lc.blk]?:=by
  intro c C lc u p hd q;by_cases E:C.mine=true
  .exact hw.2 _ ((h.blk c C lc p q).lt E).2 (by simp only[ne_eq,Option.some.injEq];exact h.sep b c B C l lc (fun e=>u e.symm) hb p hm E hl q)
  .cases C with
   |dead=>exact absurd rfl hd
   |cells cc own sz=>
    have:own=false:=by simpa [Blk.mine] using E
    subst this;have:=(h.blk c _ lc p q).below;exact hw.2 _ (h.size _ this) (by simp only[ne_eq,Option.some.injEq];exact fun q=>((h.blk b B l hb hl).lt hm).1 (q▸this))
   |map es=>exact absurd rfl E
   |iter s p=>exact absurd rfl E
 refine⟨by simp [h.len],a1,fun k hk=>Nat.lt_of_lt_of_le (h.size k hk) hw.1,fun c C lc p q=>?_,fun c c' C C' lc J a2 p p' m m' q q'=>?_⟩
 .rcases old c C p with⟨z,rfl|⟨u,hS⟩⟩|⟨rfl,rfl⟩
  .trivial
  .have q:=O c lc z q;by_cases hd:C= .dead
   .subst hd;trivial
   .exact(h.blk c C lc hS q).mono hx (a3 c C lc u hS hd q)
  .rw[U lc q];exact hB
 .rcases old c C p with⟨z,rfl|⟨u,hS⟩⟩|⟨rfl,rfl⟩
  .cases m
  .rcases old c' C' p' with⟨D,rfl|⟨W,X⟩⟩|⟨rfl,rfl⟩
   .cases m'
   .exact h.sep c c' C C' lc J a2 hS X m m' (O c lc z q) (O c' J D q')
   .rw[U J q',he];exact h.sep c b C B lc l u hS hb m hm (O c lc z q) hl
  .rcases old c' C' p' with⟨D,rfl|⟨W,X⟩⟩|⟨rfl,rfl⟩
   .cases m'
   .rw[U lc q,he];exact fun e=>h.sep c' b C' B J l W X hb m' hm (O c' J D q') hl e.symm
   .exact absurd rfl a2
theorem gD{H:N7}{size n c:Nat}{a:Option Addr}{l:LV}(h:A5 H size (.slice a n c)=some l):l.length=n*size:=by
 unfold A5 at h;split at h
 .rename_i e;cases e;cases h;simp
 .rename_i e;cases e;split at h
  .rename_i u;cases h;subst u;simp
  .split at h
   .split at h
    .cases h;simp;omega
    .cases h
   .cases h
 .cases h
theorem gE{H:N7}(D:WR base w0 φ H.bs w){size n c:Nat}{a:Option Addr}{l:LV}(h:A5 H size (.slice a n c)=some l):∀x∈l,x.oneCell'=true:=by
 unfold A5 at h;split at h
 .cases h;intro x u;cases u
 .split at h
  .cases h;intro x u;cases u
  .split at h
   .rename_i cs own sz E;split at h
    .cases h;obtain⟨l,J,z⟩:=D.loc E;exact fun x u=>z.2.1 x (List.mem_of_mem_drop (List.mem_of_mem_take u))
    .cases h
   .cases h
 .cases h
theorem Af{H:N7}(z:WR base w0 φ H.bs w){J:Option TypeId}{size n:Nat}{x:Value}{xs:LV}(h:aY P H size J x=some (n,xs)):(∀x∈xs,x.oneCell'=true)/\xs.length=n*size:=by
 unfold aY at h;split at h
 .simp only[Option.map_eq_some_iff,Prod.mk.injEq]at h;obtain⟨l,u,rfl,rfl⟩:=h;exact⟨gE z u,gD u⟩
 .split at h
  .rename_i D;simp only[Option.some.injEq,Prod.mk.injEq]at h;obtain⟨rfl,rfl⟩:=h;subst D;exact⟨fun x E=>by obtain⟨b,_,rfl⟩:=List.mem_map.1 E;rfl,by simp⟩
  .cases h
 .cases h
theorem to{H:N7}{ts:List TypeId}{s x U x' v:Value}(hW:WR base w0 φ H.bs w)(h:C2 P H ts s x=some (v,none))(hs:VR φ s U)(hx:VR φ x x')(ty:TypeId):
  iW P base w0 φ H.bs w (Builtin.append_ ts.toArray ty #[U,x']) v:=by
 unfold C2 at h;split at h
 .cases h
 rename_i e he;split at h
 rotate_left
 .cases h
 rename_i size a7 z a4 W hz;split at h
 .cases h
 rename_i a2;split at h
 .cases h
 rename_i n xs J;obtain⟨xs',hv,hl,O⟩:=pU hW he a4 W hz (fun h=>a2 (.inr h)) J hx;have u:∀a m c,n=0->m<=c->U= .slice a m c->VR φ v (.slice a m c)->iW P base w0 φ H.bs w (Builtin.append_ ts.toArray ty #[U,x']) v:=by
  intro a m c D a1 a3 a5;subst D a3;have a6:xs'=[]:=List.length_eq_zero_iff.1 (by simpa using hl);subst a6;refine⟨_,a5,fun w' hc=>?_⟩;rw[(O w' hc a m c ty (.inr rfl) (fun _=>a1)).1 oM];cases a<;>simp [storeCells]
 split at h
 .split at h
  .rename_i D;cases h;cases hs;exact u none 0 0 D lR rfl .nilslice
  .split at h<;>simp at h
 .rename_i b o a8 c;split at h
  .rename_i D;cases h;have E:=hs;cases hs with
   |slice0=>exact u _ _ _ D lR rfl E
   |exact X=>exact u _ _ _ D lR rfl E
   |slice X hn hc=>exact u _ _ _ D hn rfl E
  .split at h
   .split at h
    .split at h
     .split at h
      .simp at h
      .split at h<;>simp at h
     .cases h
    .cases h
   .cases h
 .cases h
theorem BU{H:N7}(W:WR base w0 φ H.bs w){b o u c size:Nat}{cs:LV}{own:Bool}{sz:Nat}{E:Value}(hg:H.get b=some (.cells cs own sz))(D:o+u*size<=cs.length)
  (hx:VR φ (.slice (some ⟨b,o,none⟩) u c) E):∃a' z old,E= .slice a' u z/\VRs φ ((cs.drop o).take (u*size)) old/\∀w2,Cls base w0 φ H.bs w w2->(Builtin.firstCells size u E).run P w2= .ok old.toArray w2:=by
 have:A5 H size (.slice (some ⟨b,o,none⟩) u c)=some ((cs.drop o).take (u*size)):=by
  simp only[A5];by_cases J:u=0
  .subst J;simp
  .rw[if_neg J,hg];simp only;rw[if_pos D]
 obtain⟨a',z,old,e,h1,O,U⟩:=V9 W this hx;exact⟨a',z,old,e,O,fun w2 X=>by rw[U w2 X _ lR,List.take_of_length_le oM]⟩
theorem tq{H H':N7}{ts:List TypeId}{s x s' x' v:Value}(D:WR base w0 φ H.bs w)(h:C2 P H ts s x=some (v,some H'))(hs:VR φ s s')(hx:VR φ x x')(ty:TypeId):
  bK P base w0 φ H.bs H'.low H'.bs w (Builtin.append_ ts.toArray ty #[s',x']) v:=by
 unfold C2 at h;split at h
 .cases h
 rename_i e he;split at h
 rotate_left
 .cases h
 rename_i size e5 z d9 c9 hz;split at h
 .cases h
 rename_i d4;split at h
 .cases h
 rename_i n xs a6;obtain⟨xs',hv,hl,a1⟩:=pU D he d9 c9 hz (fun h=>d4 (.inr h)) a6 hx;obtain⟨X,e2⟩:=Af D a6;split at h
 ·
  split at h
  .simp at h
  rename_i a4;split at h
  rotate_left
  .simp at h
  rename_i a2;simp only[Option.some.injEq,Prod.mk.injEq]at h;obtain⟨rfl,rfl⟩:=h;cases hs;obtain⟨k,rest,b7,hr⟩:=(a1 w D.cls none 0 0 ty (.inl (by simpa using a2)) (fun h=>absurd h a4)).2 oM [] (fun w2 _=>by simp [Builtin.firstCells]);refine cF D (w1:=w.drew) (xs:=xs') (rest:=rest) (e:=e) rfl rfl rfl rfl hv X (v':= .slice (some ⟨w.heap.size,0,none⟩) n (n+k)) (by simpa using hr) ?_;refine VR.slice (l:=⟨w.heap.size,0,_,_⟩) (o:=0) (Q2 D) oM ?_;simp only[Nat.zero_add,hl,b7,<-Nat.add_mul];exact lR
 .rename_i b o u c;split at h
  .simp at h
  rename_i a4;split at h
  rotate_left
  .cases h
  rename_i a2;split at h
  rotate_left
  .cases h
  rename_i cs own sz hg;split at h
  rotate_left
  .cases h
  rename_i b1;obtain⟨d2,rfl⟩:=b1;have b8:=hs;obtain⟨a',c',old,rfl,a7,a3⟩:=BU (P:=P) D hg d2 b8;have W:∀x∈(cs.drop o).take (u*sz)++xs,x.oneCell'=true:=by
   intro x hx;obtain⟨l,b3,a9⟩:=D.loc hg;rcases List.mem_append.1 hx with hx|hx
   .exact a9.2.1 x (List.mem_of_mem_drop (List.mem_of_mem_take hx))
   .exact X x hx
  have d5:old.length=u*sz:=by rw[<-a7.1];simp;omega
  have a5:∀(J:Nat)(S':List Blk),WR base w0 φ S' w->¬u+n<=c'->S'.length=H.bs.length->(∀J,∀w',(∀(k:Nat)(o:Obj),w.heap[k]?=some o->w'.heap[k]?=some o)->Fr φ H.bs J w w')->
    bK P base w0 φ H.bs J (S'++[.cells ((cs.drop o).take (u*sz)++xs) true sz]) w (Builtin.append_ ts.toArray ty #[.slice a' u c',x']) (.slice (some ⟨H.next,0,none⟩) (u+n) (u+n+1)):=by
   intro J S' c0 d3 c5 d0;obtain⟨k,rest,b7,hr⟩:=(a1 w D.cls a' u c' ty (.inl a2) (fun h=>absurd h a4)).2 d3 old a3;obtain⟨h1,h2⟩:=c0.alloc (w1:=w.drew) (c:=(cs.drop o).take (u*sz)++xs) (xs:=old++xs') (rest:=rest) (e:=e) (sz:=sz) rfl rfl rfl rfl (a7.append hv) W;refine⟨_,_,_,hr,Ext.snoc _ _,?_,h1,d0 J _ h2⟩;refine VR.slice (l:=⟨w.heap.size,0,(old++xs').length+rest.length,sz⟩) (o:=0) ?_ oM ?_
   .have:=Q2 c0 (l:=⟨w.heap.size,0,(old++xs').length+rest.length,sz⟩);rw[c5]at this;exact this
   .simp only[Nat.zero_add,List.length_append,d5,hl,b7,<-Nat.add_mul];exact lR
  split at h
  .rename_i b0;subst b0;simp only[Option.some.injEq,Prod.mk.injEq]at h;obtain⟨rfl,rfl⟩:=h;refine a5 _ H.bs D ?_ rfl (fun J w' hk=>Fr.of_old D hk);cases b8 with
   |slice0=>omega
   |exact=>omega
  .rename_i b0;split at h
   rotate_left
   .cases h
   rename_i c6;subst c6;simp only[Option.some.injEq,Prod.mk.injEq]at h;obtain⟨rfl,rfl⟩:=h;by_cases O:u+n<=c'
   ·
    cases b8 with
    |slice0=>omega
    |exact=>exact absurd rfl b0
    |slice b4 hn hc=>
     rename_i l;obtain⟨l',b3,a9⟩:=D.loc hg;rw[b4]at b3;cases b3;obtain⟨h0,c8,h1,h2,h3⟩:=a9;obtain⟨hb,e3,E,tt,fz,hh,e4,c4⟩:=h3 rfl;rw[h0]at hc;have d6:o+u*sz+n*sz<=l.cap:=by
      have:(u+n)*sz<=c'*sz:=Nat.mul_le_mul_right _ O;rw[Nat.add_mul]at this;omega
     have b6:∀v∈xs',v.oneCell'=true:=by
      intro v e1;obtain⟨i,hi⟩:=List.getElem?_of_mem e1;have d1:i<xs.length:=by rw[hv.1];exact(gS hi).1
      have:=hv.2 i xs[i] v (by simp [d1]) hi;have ho:=X xs[i] sM;rw[this.oneCell ho];exact ho
     have d8:=aJ (P:=P) l.blk (l.off+o+u*sz) tt fz xs' 0 E w hh oM (fun p hp=>c4 p oM) b6;have b5:=(gA hh).1;refine⟨.slice (some ⟨l.blk,l.off+o,none⟩) (u+n) c',E5 w l.blk (.cells (splice E.toList (l.off+o+u*sz+0) xs').toArray tt fz),φ++[⟨l.blk,l.off+o,l.cap-o,sz⟩],?_,Ext.snoc _ _,?_,?_,?_⟩
     .rw[(a1 w D.cls _ u c' ty (.inl a2) (fun h=>absurd h a4)).1 O];simp only[Addr.add_none,d8,Result.andThen_ok]
     .refine VR.slice (l:=⟨l.blk,l.off+o,l.cap-o,sz⟩) (o:=0) ?_ O ?_
      .have:=Q2 D (l:=⟨l.blk,l.off+o,l.cap-o,sz⟩)
       simpa [N7.next,N7.put] using this
      .simp only[Nat.zero_add];omega
     .refine D.move hg b4 rfl (bu w l.blk _) (R7 D.below hb) (l2:=⟨l.blk,l.off+o,l.cap-o,sz⟩) rfl ?_;have c7:=Ext.snoc φ ⟨l.blk,l.off+o,l.cap-o,sz⟩;have a8:∀j,(E5 w l.blk (.cells (splice E.toList (l.off+o+u*sz+0) xs').toArray tt fz)).cell? ⟨l.blk,j,none⟩=(splice E.toList (l.off+o+u*sz) xs')[j]?:=by
       intro j;unfold World.cell?;simp [F9 w _ _ b5]
      have c3:l.off+o+u*sz+xs'.length<=E.toList.length:=by
       have:E.toList.length=E.size:=sM;omega
      refine⟨rfl,W,fun i y hy=>?_,(by intro hf;cases hf),fun _=>⟨hb,?_,_,tt,fz,F9 w _ _ b5,?_,fun i hi=>?_⟩⟩
      .rw[a8,Y9 _ _ _ _ c3];have b2:((cs.drop o).take (u*sz)).length=u*sz:=by simp;omega
       by_cases hi:i<u*sz
       .rw[List.getElem?_append_left (by rw[b2];exact hi),List.getElem?_take,if_pos hi,List.getElem?_drop]at hy;obtain⟨z,U,b9⟩:=h1 _ y hy;refine⟨z,?_,b9.mono c7⟩;rw[if_neg (by show¬(l.off+o+u*sz<=l.off+o+i/\_);omega)];unfold World.cell? at U;simp only[hh,Option.isSome_none,bF]at U;show E.toList[l.off+o+i]?=some z;rw[Array.getElem?_toList,Nat.add_assoc];exact U
       .rw[List.getElem?_append_right (by rw[b2];omega),b2]at hy;obtain⟨z,U,b9⟩:=hv.get hy;refine⟨z,?_,b9.mono c7⟩;have e6:i-u*sz<xs'.length:=(gS U).1;rw[if_pos (by show l.off+o+u*sz<=l.off+o+i/\l.off+o+i<l.off+o+u*sz+xs'.length;omega)];show xs'[l.off+o+i-(l.off+o+u*sz)]?=some z;rw[show l.off+o+i-(l.off+o+u*sz)=i-u*sz from oM];exact U
      .show((cs.drop o).take (u*sz)++xs).length<=l.cap-o;simp only[List.length_append,List.length_take,List.length_drop,e2];omega
      .show l.off+o+(l.cap-o)<=_;simp [E3];omega
      .have:=c4 i (by have:i<l.off+o+(l.cap-o):=hi;omega);unfold World.frozen? at this ⊢;simp only[hh]at this;simp only[F9 w _ _ b5];exact this
     .exact Fr.of_put D hg b4 rfl (Nat.min_le_right _ _)
   .exact a5 _ (H.bs.set b .dead) (D.kill b) O sM (fun J w' hk=>Fr.of_old D hk)
 .cases h
theorem tW{H:N7}(hW:WR base w0 φ H.bs w){ts:List TypeId}{e size:Nat}(O:ts.head?.bind (I5 P)=some e)(hs:D8 P e=some size){sa:Option Addr}{u W dn:Nat}{U:Value}{X:LV}
  (hx:A5 H size (.slice sa u W)=some X) (hv:VR φ (.slice sa u W) U):
  ∃xs',VRs φ (X.take (min u dn*size)) xs'/\∀z,Cls base w0 φ H.bs w z->∀E J ty,(Builtin.copy_ ts.toArray ty #[.slice E dn J,U]).run P z=
   ((match E with|some a=>(storeCells a xs').run P z|none=> .ok () z).andThen fun _ w2=> .ok (goInt (min u dn:Nat)) w2):=by
 obtain⟨t,ts,rfl⟩:∃t r,ts=t::r:=by cases ts with
  |nil=>simp at O
  |cons t r=>exact⟨t,r,rfl⟩
 have hu:=Z0 (by simpa using O);obtain⟨a',c',l',rfl,h1,h2,h3⟩:=V9 (P:=P) hW hx hv;refine⟨l'.take (min u dn*size),h2.take _,fun z hc E J ty=>?_⟩;have g0:(t::ts).toArray[0]?=some t:=sM;have hf:=h3 z hc (min u dn) (Nat.min_le_left _ _);have D:Nat.min u dn=min u dn:=rfl;simp only[Builtin.copy_];simp only[g0,List.getElem?_toArray,List.getElem?_cons_zero,List.getElem?_cons_succ,Sem.run_bind,run_underlying hu,Result.andThen_ok,C1 hs,Builtin.lenOf,Sem.run_pure,D,hf];cases E with
 |none=>simp only[Sem.run_pure,Result.andThen_ok]
 |some a=>simp only[Sem.run_bind,Sem.run_pure]
theorem AP{H:N7}{ts:List TypeId}{d s z W v:Value}(X:WR base w0 φ H.bs w)(h:kI P H ts d s=some (v,none))(hd:VR φ d z)(hs:VR φ s W)(ty:TypeId):
  iW P base w0 φ H.bs w (Builtin.copy_ ts.toArray ty #[z,W]) v:=by
 unfold kI at h;split at h
 .cases h
 rename_i e he;split at h
 rotate_left
 .cases h
 rename_i size da dn dc E;split at h
 .cases h
 split at h
 rotate_left
 .cases h
 rename_i sa sn sc;split at h
 rotate_left
 .cases h
 rename_i ys O;split at h
 .rename_i U;cases h;obtain⟨xs',hv,u⟩:=tW (P:=P) X he E (dn:=dn) O hs;have J:xs'=[]:=by have:=hv.1;rw[U]at this;simp at this;exact List.length_eq_zero_iff.1 this.symm
  subst J;have D:∃a c,z= .slice a dn c:=by cases hd<;>exact⟨_,_,rfl⟩
  obtain⟨a,c,rfl⟩:=D;refine⟨goInt 0,VR.na (by rfl),fun w' hc=>?_⟩;rw[u w' hc a c ty,U];cases a<;>simp [storeCells]
 .split at h
  .split at h
   .split at h<;>simp at h
   .cases h
  .cases h
theorem AQ{H H':N7}{ts:List TypeId}{d s d' s' v:Value}(J:WR base w0 φ H.bs w)(h:kI P H ts d s=some (v,some H'))(hd:VR φ d d')(hs:VR φ s s')(ty:TypeId):
  bK P base w0 φ H.bs H'.low H'.bs w (Builtin.copy_ ts.toArray ty #[d',s']) v:=by
 unfold kI at h;split at h
 .cases h
 rename_i e he;split at h
 rotate_left
 .cases h
 rename_i size da dn dc b4;split at h
 .cases h
 split at h
 rotate_left
 .cases h
 rename_i sa sn sc;split at h
 rotate_left
 .cases h
 rename_i ys a2;split at h
 .simp at h
 rename_i h0;split at h
 rotate_left
 .cases h
 rename_i b o;split at h
 rotate_left
 .cases h
 rename_i cs sz hg;split at h
 rotate_left
 .cases h
 rename_i b2;simp only[Option.some.injEq,Prod.mk.injEq]at h;obtain⟨rfl,rfl⟩:=h;obtain⟨xs',hv,a6⟩:=tW (P:=P) J he b4 (dn:=dn) a2 hs;have a1:(ys.take (min sn dn*size)).length=min sn dn*size:=by
  have:=gD a2;rw[List.length_take,this];exact Nat.min_eq_left (Nat.mul_le_mul_right _ (Nat.min_le_left _ _))
 have a9:∃l c,φ[b]?=some l/\d'= .slice (some ⟨l.blk,l.off+o,none⟩) dn c:=by
  cases hd with
  |slice0=>exfalso;omega
  |exact h=>exact⟨_,_,h,rfl⟩
  |slice h=>exact⟨_,_,h,rfl⟩
 obtain⟨l,c,hl,rfl⟩:=a9;obtain⟨l',a5,a8⟩:=J.loc hg;rw[hl]at a5;cases a5;obtain⟨g0,O,h1,h2,h3⟩:=a8;obtain⟨hb,a3,u,tt,fz,hh,a7,a4⟩:=h3 rfl;have D:=gE J a2;have W:∀v∈xs',v.oneCell'=true:=by
  intro v b6;obtain⟨i,hi⟩:=List.getElem?_of_mem b6;obtain⟨x,hx⟩:∃x,(ys.take (min sn dn*size))[i]?=some x:=by
   have b0:i<(ys.take (min sn dn*size)).length:=by rw[hv.1];exact(gS hi).1
   exact⟨_,List.getElem?_eq_getElem b0⟩
  have ho:=D x (List.mem_of_mem_take (mG hx));rw[(hv.2 i x v hx hi).oneCell ho];exact ho
 have b7:xs'.length=min sn dn*size:=by rw[<-hv.1];exact a1
 have b3:=aJ (P:=P) l.blk (l.off+o) tt fz xs' 0 u w hh oM (fun p hp=>a4 p oM) W;have U:=(gA hh).1;refine⟨goInt (min sn dn:Nat),E5 w l.blk (.cells (splice u.toList (l.off+o+0) xs').toArray tt fz),φ,?_,Ext.refl φ,VR.na (by rfl),J.put (l:=l) hg hl rfl (bu w l.blk _) (R7 J.below hb) ?_,Fr.of_put J hg hl rfl (Nat.min_le_right _ _)⟩
 .rw[a6 w J.cls _ c ty];simp only[b3,Result.andThen_ok]
 .refine⟨g0,fun v b5=>(fa _ _ _ v b5).elim (O v) (fun h=>D v (List.mem_of_mem_take h)),fun i y hy=>?_,(by intro hf;cases hf),fun _=>⟨hb,by rw[E3];exact a3,_,tt,fz,F9 w _ _ U,by simp [E3];exact a7,fun i hi=>?_⟩⟩
  .rw[Y9 _ _ _ _ (by rw[a1];exact b2)]at hy;have E:∀j,(E5 w l.blk (.cells (splice u.toList (l.off+o+0) xs').toArray tt fz)).cell? ⟨l.blk,j,none⟩=(splice u.toList (l.off+o) xs')[j]?:=by
    intro j;unfold World.cell?;simp [F9 w _ _ U]
   rw[E,Y9 _ _ _ _ (by have:u.toList.length=u.size:=sM;omega)];rw[a1]at hy;split at hy
   .rename_i b1;obtain⟨z,hz,X⟩:=hv.get hy;refine⟨z,?_,X⟩;rw[if_pos oM,show l.off+i-(l.off+o)=i-o from oM];exact hz
   .rename_i b1;obtain⟨z,hz,X⟩:=h1 i y hy;refine⟨z,?_,X⟩;rw[if_neg oM];unfold World.cell? at hz
    simpa [hh] using hz
  .have:=a4 i hi;unfold World.frozen? at this ⊢;simp only[hh]at this;simp only[F9 w _ _ U];exact this
theorem AM{H:N7}{J D:TypeId}{x x' v:Value}(hW:WR base w0 φ H.bs w)(h:Z4 P H J D x=some (v,none))(hx:VR φ x x'):iW P base w0 φ H.bs w (convert J D x') v:=by
 unfold Z4 at h;split at h
 .rename_i d k k0 n z u;cases h;cases hx;refine⟨_,.int _ _,fun U _=>?_⟩;simp only[convert,Sem.run_bind,run_underlying z,run_underlying u,Result.andThen_ok];cases d<;>simp [Conv.intToInt]
 .rename_i d s z u;cases h;cases hx;refine⟨_,.string _,fun U _=>?_⟩;simp only[convert,Sem.run_bind,run_underlying z,run_underlying u,Result.andThen_ok];cases d<;>simp
 .rename_i e a n c z u;split at h
  rotate_left
  .cases h
  rename_i he;split at h
  rotate_left
  .cases h
  rename_i l hl;cases h;simp only[Option.bind_eq_some_iff]at hl;obtain⟨cs,W,O⟩:=hl;obtain⟨a',c',l',rfl,h1,h2,h3⟩:=V9 (P:=P) hW W hx;have:=uS O h2;subst this;refine⟨_,.string _,fun U hc=>?_⟩;have E:=h3 U hc n lR;rw[List.take_of_length_le oM]at E;simp only[convert,Sem.run_bind,run_underlying z,run_underlying u,Result.andThen_ok,run_underlying he,Conv.bytesToString];cases a' with
  |none=>
   simp only[Builtin.firstCells,Sem.run_pure,Result.ok.injEq,and_true]at E;have a1:l'=[]:=by have:=congrArg Array.toList E;simpa using this.symm
   subst a1;simp at O;subst O;simp only[Sem.run_pure];rfl
  |some a'=>
   simp only[Builtin.firstCells,Nat.mul_one]at E;simp only[Sem.run_bind,E,Result.andThen_ok];rw[<-Array.forIn_toList];have:=wq (P:=P) l' ByteArray.empty l U O;simp only[List.toList_toArray]at this ⊢;refine(congrArg (fun r=>Result.andThen r _) this).trans ?_;simp only[Result.andThen_ok,Sem.run_pure];have X:ByteArray.empty.data= #[]:=rfl;rw[X,Array.empty_append]
 .rename_i d e s z u;split at h
  .cases h
  .cases h
  .cases h
 .cases h
theorem ux(w:World)(g n:Nat)(cs:Array Value)(t:TypeId)(z:w.heap[g]?=some (.cells cs t (0,0))):(w.freeze ⟨g,n,none⟩ 1)=E5 w g (.cells cs t (n,n+1)):=by
 unfold World.freeze E5;simp only[Nat.one_ne_zero,if_false]
 congr 1
 apply Array.ext_getElem?;intro i;rw[Array.getElem?_modify,Array.getElem?_setIfInBounds];by_cases D:g=i
 .subst D;have u:=(gA z).1;simp only[if_true,z,Option.map_some,u,beq_self_eq_true]
 .simp [D]
theorem oT{H:N7}(E:WR base w0 φ H.bs w)(e:TypeId)(s:ByteArray)(a7:Nat):
  bK P base w0 φ H.bs a7 (H.push (.cells (s.data.toList.map S0) true 1)).bs w (Conv.stringToBytes e s) (.slice (some ⟨H.next,0,none⟩) s.size (s.size+1)):=by
 have W:(choose (Question.appendCap s.size 0 e)).run P w= .ok (s.size+w.tape w.drawn (.appendCap s.size 0 e) % (2 ^ 63-s.size)) w.drew:=by
  rw[run_choose,if_neg (by simp [Question.forced])];rfl
 generalize hk:w.tape w.drawn (.appendCap s.size 0 e) % (2 ^ 63-s.size)=k at W;have X:(s.data.toList.map S0).length=s.size:=sM;have hv:VRs φ (s.data.toList.map S0) (s.data.toList.map S0):=VRs.map _ _ _ (fun b _=> .int _ _);have a1:∀x∈s.data.toList.map S0,x.oneCell'=true:=fun x hx=>by obtain⟨b,_,rfl⟩:=List.mem_map.1 hx;rfl
 have D:∀j,j<w.heap.size->(w.drew.alloc (.cells (s.data.toList.map S0++List.replicate k (Value.int .u8 0)).toArray e)).heap[j]?=w.heap[j]?:=fun j J=>Below.heap_alloc _ _ _ J;have z:(w.drew.alloc (.cells (s.data.toList.map S0++List.replicate k (Value.int .u8 0)).toArray e)).heap[w.heap.size]?=some (.cells (s.data.toList.map S0++List.replicate k (Value.int .u8 0)).toArray e (0,0)):=heap_alloc_new w.drew _;have a2:(Conv.stringToBytes e s).run P w= .ok (.slice (some ⟨w.heap.size,0,none⟩) s.size (s.size+k))
   (E5 (w.drew.alloc (.cells (s.data.toList.map S0++List.replicate k (Value.int .u8 0)).toArray e)) w.heap.size (.cells (s.data.toList.map S0++List.replicate k (Value.int .u8 0)).toArray e (s.size+k,s.size+k+1))):=by
  have O:Array.map (fun b=>Value.int IntKind.u8 ↑b.toNat) s.data++Array.replicate (s.size+k-s.size) (Value.int IntKind.u8 0)=(s.data.toList.map S0++List.replicate k (Value.int .u8 0)).toArray:=by
   apply Array.toList_inj.1;simp only[Array.toList_append,Array.toList_map,Array.toList_replicate];rw[show s.size+k-s.size=k from oM];rfl
  have a5:(w.drew.alloc (.cells (s.data.toList.map S0++List.replicate k (Value.int .u8 0)).toArray e)).shape? w.heap.size=some (e,s.size+k):=by
   unfold World.shape?;rw[z];simp
  simp only[Conv.stringToBytes,Sem.run_bind,W,Result.andThen_ok,newRow,newObj,Sem.run,Sem.run_pure,markStringish,run_shape,O];have e1:w.drew.heap.size=w.heap.size:=rfl;simp only[e1,World.alloc_eq,a5,run_freeze,ux _ _ _ _ _ z,Result.andThen_ok]
 have U:But w (E5 (w.drew.alloc (.cells (s.data.toList.map S0++List.replicate k (Value.int .u8 0)).toArray e)) w.heap.size (.cells (s.data.toList.map S0++List.replicate k (Value.int .u8 0)).toArray e (s.size+k,s.size+k+1))) none:=
  ⟨by simp [E5],fun j J _=>by rw[aG _ _ _ _ oM];exact D j J⟩
 refine⟨_,_,φ++[⟨w.heap.size,0,s.size+k,1⟩],a2,Ext.snoc _ _,?_,E.push U ?_ (fun _=>lR) ?_,Fr.of_old E fun j o J=>?_⟩
 .refine VR.slice (l:=⟨w.heap.size,0,s.size+k,1⟩) (o:=0) (Q2 E) oM sM
 .exact R7 ((E.below.drew).alloc E.size _) (dV E.size)
 .have u:=F9 (w.drew.alloc (.cells (s.data.toList.map S0++List.replicate k (Value.int .u8 0)).toArray e)) w.heap.size (.cells (s.data.toList.map S0++List.replicate k (Value.int .u8 0)).toArray e (s.size+k,s.size+k+1)) sM;refine⟨rfl,a1,fun i x hi=>?_,(by intro hf;cases hf),fun _=>⟨dV E.size,by rw[X];show s.size<=s.size+k;omega,_,e,_,u,by simp,fun i hi=>?_⟩⟩
  .obtain⟨y,hy,a6⟩:=hv.get hi;refine⟨y,?_,a6.mono (Ext.snoc _ _)⟩;unfold World.cell?;simp only[u,Option.isSome_none,bF,Nat.zero_add];have a4:i<(s.data.toList.map S0).length:=(gS hy).1;rw[List.getElem?_toArray,List.getElem?_append_left a4];exact hy
  .unfold World.frozen?;simp only[u];have:i<0+(s.size+k):=hi;simp only[Bool.and_eq_false_iff,decide_eq_false_iff_not]
   left;omega
 .have a3:=(gA J).1;rw[aG _ _ _ _ oM,D j a3];exact J
theorem pI(s:ByteArray):∀(b i:Nat)(u:Array Value),(∀x∈u,∃n,x= .int .i32 n)->∀x∈Conv.runesFrom s b i u,∃n,x= .int .i32 n:=by
 intro b;induction b with
 |zero=>intro i u h;exact h
 |succ b D=>
  intro i u h;unfold Conv.runesFrom;split
  .refine D _ _ fun x z=>?_;rcases Array.mem_push.1 z with z|rfl
   .exact h x z
   .exact⟨_,rfl⟩
  .exact h
theorem oU{H:N7}(O:WR base w0 φ H.bs w)(e:TypeId)(s:ByteArray)(J:Nat):
  bK P base w0 φ H.bs J (H.push (.cells (Conv.runesFrom s s.size 0 #[]).toList true 1)).bs w (Conv.stringToRunes e s) (.slice (some ⟨H.next,0,none⟩) (Conv.runesFrom s s.size 0 #[]).size ((Conv.runesFrom s s.size 0 #[]).size+1)):=by
 have u:=pI s s.size 0 #[] (fun x E=>by simp at E);unfold Conv.stringToRunes;generalize Conv.runesFrom s s.size 0 #[]=R at u ⊢;have D:(choose (Question.appendCap R.size 0 e)).run P w= .ok (R.size+w.tape w.drawn (.appendCap R.size 0 e) % (2 ^ 63-R.size)) w.drew:=by
  rw[run_choose,if_neg (by simp [Question.forced])];rfl
 generalize hk:w.tape w.drawn (.appendCap R.size 0 e) % (2 ^ 63-R.size)=k at D;have U:VRs φ R.toList R.toList:=⟨rfl,fun i x y p q=>by
  rw[p]at q;cases q;obtain⟨n,rfl⟩:=u x (by simpa using mG p);exact .int _ _⟩
 refine cF O (w1:=w.drew) (xs:=R.toList) (rest:=List.replicate k (Value.int .i32 0)) (e:=e) rfl rfl rfl rfl U (fun x E=>by obtain⟨n,rfl⟩:=u x (by simpa using E);rfl) (v':= .slice (some ⟨w.heap.size,0,none⟩) R.size (R.size+k)) ?_ ?_
 .have z:R++Array.replicate (R.size+k-R.size) (Value.int IntKind.i32 0)=(R.toList++List.replicate k (Value.int .i32 0)).toArray:=by
   apply Array.toList_inj.1;simp
  simp only[Sem.run_bind,D,Result.andThen_ok,newRow,newObj,Sem.run,Sem.run_pure,z];rfl
 .exact VR.slice (l:=⟨w.heap.size,0,_,1⟩) (o:=0) (Q2 O) oM sM
theorem AO{H H':N7}{z u:TypeId}{x x' v:Value}(W:WR base w0 φ H.bs w)(h:Z4 P H z u x=some (v,some H'))(hx:VR φ x x'):bK P base w0 φ H.bs H'.low H'.bs w (convert z u x') v:=by
 unfold Z4 at h;split at h
 .cases h
 .cases h
 .split at h
  .split at h<;>cases h
  .cases h
 .rename_i d e s hs X;cases hx;have O:P.underlying e=some (.int .u8)->(convert z u (.string s)).run P w=(Conv.stringToBytes e s).run P w:=by
   intro J;simp only[convert,Sem.run_bind,run_underlying hs,run_underlying X,Result.andThen_ok];cases d<;>simp only[Sem.run_bind,run_underlying J,Result.andThen_ok]
  have D:P.underlying e=some (.int .i32)->(convert z u (.string s)).run P w=(Conv.stringToRunes e s).run P w:=by
   intro J;simp only[convert,Sem.run_bind,run_underlying hs,run_underlying X,Result.andThen_ok];cases d<;>simp only[Sem.run_bind,run_underlying J,Result.andThen_ok]
  have E:∀{q:Sem Value}{U:List Blk}{v},(convert z u (.string s)).run P w=q.run P w->bK P base w0 φ H.bs H'.low U w q v->bK P base w0 φ H.bs H'.low U w (convert z u (.string s)) v:=by
   intro q U v hq ⟨v',w',φ',h1,h2⟩;exact⟨v',w',φ',hq.trans h1,h2⟩
  split at h
  .rename_i J;simp only[Option.some.injEq,Prod.mk.injEq]at h;obtain⟨rfl,rfl⟩:=h;exact E (O J) (oT W e s _)
  .rename_i J;simp only[Option.some.injEq,Prod.mk.injEq]at h;obtain⟨rfl,rfl⟩:=h;exact E (D J) (oU W e s _)
  .cases h
 .cases h
end
structure ER(φ:List Loc)(nt:Nat)(e:Env)(a:Act):Prop where
 size:a.tmps.size=nt
 val:∀t,VR φ (e.get t) (a.tmps.getD t undef)
section
variable{P:Program}{base:Bs}{w0:World}{φ:List Loc}{S:List Blk}{w:World}{nt:Nat}{e:Env}{a:Act}
theorem ER.mono{u:List Loc}(z:Ext φ u)(h:ER φ nt e a):ER u nt e a:=⟨h.size,fun t=>(h.val t).mono z⟩
theorem ER.op(h:ER φ nt e a){x:Operand}(u:C5 x=true):VR φ (opv e x) (a.eval x):=BX ⟨h.size,h.val⟩ rfl u
theorem ER.put(h:ER φ nt e a){d:Option Nat}(z:fo nt d=true){v v':Value}(D:VR φ v v'):ER φ nt (I3 e d v) (a.put d v'):=by
 cases d with
 |none=>exact h
 |some d=>
  simp only[fo,decide_eq_true_eq]at z;refine⟨by simp [Act.put,h.size],fun t=>?_⟩;simp only[Act.put,I3,Env.get];by_cases u:d=t
  .subst u;rw[if_pos rfl];have:d<a.tmps.size:=by rw[h.size];exact z
   simp only[Array.getD_eq_getD_getElem?,Array.getElem?_setIfInBounds,if_true,this,Option.getD_some];exact D
  .rw[if_neg u];have:=h.val t;simp only[Array.getD_eq_getD_getElem?,Array.getElem?_setIfInBounds,if_neg u]at this ⊢;exact this
theorem ER.wanted(h:ER φ nt e a)(ops:Array Oper)(o:Oper)(X:∀(j:Nat)(E:Oper)(d:Nat),ops[j]?=some E->E.dst=some d->d<nt) (D:X4 ops e o=false):E0 ops e o=Region.wanted o (yielded ops a.tmps):=by
 unfold X4 at D;unfold E0 Region.wanted;cases hg:o.guard with
 |none=>rfl
 |some g=>
  obtain⟨j,b⟩:=g;rw[hg]at D;simp only[yielded];cases W:ops[j]? with
  |none=>rfl
  |some E=>
   simp only[W,Option.bind_some]at D;cases u:E.dst with
   |none=>simp [u]
   |some d=>
    simp only[u]at D;simp only[u,Option.bind_some];have O:d<a.tmps.size:=by rw[h.size];exact X j E d W u
    have U:=h.val d;have J:a.tmps[d]?=some (a.tmps.getD d undef):=by simp [O]
    rw[J];generalize a.tmps.getD d undef=z at U;generalize e.get d=y at U D;cases U<;>first|rfl|cases D
theorem ER.args(h:ER φ nt e a){xs:Array Operand}(z:xs.toList.all C5=true):VRs φ (xs.toList.map (opv e)) (xs.toList.map a.eval):=
 VRs.map _ _ _ fun x u=>h.op (List.all_eq_true.1 z x u)
theorem ER.parts(h:ER φ nt e a){xs:Array (Nat×Operand)}(E:(xs.toList.map (·.2)).all C5=true):
  iY φ (xs.toList.map fun(i,x)=>(i,opv e x)) (xs.toList.map fun(i,x)=>(i,a.eval x)):=by
 refine⟨by simp,fun i x y p q=>?_⟩;simp only[List.getElem?_map,Option.map_eq_some_iff]at p q;obtain⟨⟨j,z⟩,D,rfl⟩:=p;obtain⟨⟨J,O⟩,u,rfl⟩:=q;rw[D]at u;cases u;exact⟨rfl,h.op (List.all_eq_true.1 E z (List.mem_map.2 ⟨_,mG D,rfl⟩))⟩
theorem ER.opt(h:ER φ nt e a){x:Option Operand}(u:x.toList.all C5=true):(∀v v',x.map (opv e)=some v->x.map a.eval=some v'->VR φ v v')/\(x.map (opv e)).isSome=(x.map a.eval).isSome:=by
 cases x with
 |none=>exact⟨fun v v' p=>(by cases p),rfl⟩
 |some x=>exact⟨fun v v' p q=>(by cases p;cases q;exact h.op (by simpa using u)),rfl⟩
theorem D9{x:Option Value}{v:Value}{r:Option N7}(h:keep x=some (v,r)):x=some v/\r=none:=by
 unfold keep at h;simp only[Option.map_eq_some_iff,Prod.mk.injEq]at h;obtain⟨y,rfl,rfl,rfl⟩:=h;exact⟨rfl,rfl⟩
theorem C3{x:Option (Value×N7)}{v:Value}{r:Option N7}(h:turn x=some (v,r)):∃H',x=some (v,H')/\r=some H':=by
 unfold turn at h;simp only[Option.map_eq_some_iff,Prod.mk.injEq]at h;obtain⟨⟨y,H'⟩,rfl,rfl,rfl⟩:=h;exact⟨H',rfl,rfl⟩
def P2(P:Program)(base:Bs)(w0:World)(φ:List Loc)(S:List Blk)(w:World)(s:Sem Next)(v:Value):Prop:=
 ∃v',VR φ v v'/\∀w',Cls base w0 φ S w w'->s.run P w'= .ok (.value v') w'
theorem P2.of{s:Sem Value}{v:Value}(h:iW P base w0 φ S w s v):P2 P base w0 φ S w (do pure (.value (<-s))) v:=by
 obtain⟨v',u,z⟩:=h;exact⟨v',u,fun E D=>by simp only[Sem.run_bind,z E D,Result.andThen_ok,Sem.run_pure]⟩
theorem P2.all{s:Sem Value}{v:Value}(h:∃v',VR φ v v'/\∀u,s.run P u= .ok v' u):P2 P base w0 φ S w (do pure (.value (<-s))) v:=
 let⟨v',h1,h2⟩:=h;P2.of ⟨v',h1,fun u _=>h2 u⟩
theorem rr{b:Builtin}{ts:Array TypeId}{ty:TypeId}{cs:Array Bool}{H:N7}{args u:LV}{v:Value}(W:WR base w0 φ H.bs w)(h:D7 P b ts.toList args H=some (v,none))(J:VRs φ args u):
  P2 P base w0 φ H.bs w (builtin b ts ty cs u.toArray) v:=by
 unfold D7 at h;split at h
 .rename_i x;simp only[Option.map_eq_some_iff,Prod.mk.injEq]at h;obtain⟨v,h,rfl,_⟩:=h;obtain⟨y,ys,rfl,D,E⟩:=J.of_cons;rw[E.of_nil];have:=BC W h D ty;simp only[Array.toArray_toList]at this;exact P2.of this
 .rename_i s x;obtain⟨y,ys,rfl,D,E⟩:=J.of_cons;obtain⟨z,zs,rfl,O,U⟩:=E.of_cons;rw[U.of_nil];have:=to W h D O ty;simp only[Array.toArray_toList]at this;exact P2.of this
 .rename_i d s;obtain⟨y,ys,rfl,D,E⟩:=J.of_cons;obtain⟨z,zs,rfl,O,U⟩:=E.of_cons;rw[U.of_nil];have:=AP W h D O ty;simp only[Array.toArray_toList]at this;exact P2.of this
 .simp only[Option.map_eq_some_iff,Prod.mk.injEq]at h;obtain⟨v,h,rfl,_⟩:=h;obtain⟨y,rest,rfl,D,E⟩:=jv h _ J;refine P2.all ⟨v,D,fun X=>?_⟩;have:=E X
  simpa [Builtin.max_] using this
 .simp only[Option.map_eq_some_iff,Prod.mk.injEq]at h;obtain⟨v,h,rfl,_⟩:=h;obtain⟨y,rest,rfl,D,E⟩:=jv h _ J;refine P2.all ⟨v,D,fun X=>?_⟩;have:=E X
  simpa [Builtin.min_] using this
 .cases h
theorem gT{C:A8}{o:Oper}{H:N7}{v:Value}(hW:WR base w0 φ H.bs w)(z:ER φ nt e a)(u:o.op.operands.toList.all C5=true)(hc:isCall o.op=false)(h:aop P C o.op e H=some (v,none)):
  P2 P base w0 φ H.bs w (execOp a.eval o) v:=by
 unfold aop at h;unfold execOp;split at h<;>rename_i X<;>simp only[X]
 all_goals simp only[X,Op.operands,List.all_cons,List.all_nil,Bool.and_true,Bool.and_eq_true]at u
 case h_1 x=>
  obtain⟨h,_⟩:=D9 h;cases h;exact⟨_,z.op u,fun W _=>rfl⟩
 case h_2 x=>
  obtain⟨h,_⟩:=D9 h;cases h;exact⟨_,z.op u,fun W _=>rfl⟩
 case h_3 c x y=>
  have hc:=z.op u.1;split at h
  .rename_i t O;rw[O]at hc;obtain⟨h,_⟩:=D9 h;cases h;generalize hcv:a.eval c=cv at hc;cases hc;refine⟨if t then a.eval x else a.eval y,by cases t;exact z.op u.2.2;exact z.op u.2.1,fun W _=>?_⟩;simp only[asBool,Sem.run_bind,Sem.run_pure,Result.andThen_ok]
  .cases h
 case h_4=>obtain⟨_,_,h⟩:=C3 h;cases h
 case h_5=>
  split at h
  .obtain⟨_,_,h⟩:=C3 h;cases h
  .cases h
 case h_6 t J=>
  obtain⟨h,_⟩:=D9 h;have hp:=z.parts (xs:=J) (by simpa [List.all_map] using u);have:=tM h hp;have e1:(J.map fun(i,x)=>(i,a.eval x))=(J.toList.map fun(i,x)=>(i,a.eval x)).toArray:=by apply Array.toList_inj.1;simp
  rw[e1];exact P2.all this
 case h_7=>obtain⟨_,_,h⟩:=C3 h;cases h
 case h_8 t x=>
  obtain⟨h,_⟩:=D9 h;exact P2.of (uN hW h (z.op u))
 case h_9=>obtain⟨_,_,h⟩:=C3 h;cases h
 case h_10 x=>
  have U:=z.op u;split at h
  .rename_i ad O;rw[O]at U;obtain⟨h,_⟩:=D9 h;cases h;generalize a.eval x=xv at U;cases U with
   |ptr hl=>exact⟨_,.ptr hl,fun W _=>rfl⟩
  .rename_i g f c O;rw[O]at U;obtain⟨h,_⟩:=D9 h;cases h;generalize a.eval x=xv at U;have a5:=U;cases U with
   |func=>exact⟨_,a5,fun W _=>rfl⟩
  .cases h
 case h_11 op t x y yt=>
  obtain⟨h,_⟩:=D9 h;exact P2.all (Av h (z.op u.1) (z.op u.2) x y)
 case h_12 op t x=>
  obtain⟨h,_⟩:=D9 h;exact P2.all (Gb h (z.op u))
 case h_13 s d x=>exact P2.of (AM hW h (z.op u))
 case h_14 t x=>
  split at h
  .rename_i a4;obtain⟨h,_⟩:=D9 h;cases h;exact P2.all ⟨_,.iface t (z.op u),fun W=>run_makeInterface W t _ a4⟩
  .cases h
 case h_15 fn first E=>
  split at h
  .rename_i g;obtain⟨h,_⟩:=D9 h;cases h;have D:first.toList.all C5=true/\E.toList.all C5=true:=by
    simpa [List.all_append] using u
   have h1:=z.args D.1;have h2:=z.args D.2;refine P2.all ⟨.func (.func g) (first.map a.eval) (E.map a.eval),.func g ?_ ?_ ?_ ?_,fun W=>rfl⟩
   .simp
   .simp only[Array.toList_map];exact h1.2
   .simp
   .simp only[Array.toList_map];exact h2.2
  .cases h
 case h_16=>obtain⟨_,_,h⟩:=C3 h;cases h
 case h_17=>obtain⟨_,_,h⟩:=C3 h;cases h
 case h_18 t x lo hi mx=>
  obtain⟨h,_⟩:=D9 h;have D:C5 x=true/\lo.toList.all C5=true/\hi.toList.all C5=true/\mx.toList.all C5=true:=by
   simp only[Array.toList_append,List.all_append,Bool.and_eq_true,Option.toList_toArray,List.all_cons,List.all_nil,Bool.and_true]at u
   simpa [and_assoc] using u
  exact P2.all (lk hW h (z.op D.1) (z.opt D.2.1) (z.opt D.2.2.1) (z.opt D.2.2.2))
 case h_19 s x f=>
  obtain⟨h,_⟩:=D9 h;exact P2.all (lF h (z.op u))
 case h_20 s x f=>
  obtain⟨h,_⟩:=D9 h;exact P2.all (um h (z.op u))
 case h_21 t x ix=>
  obtain⟨h,_⟩:=D9 h;exact P2.all (lI h (z.op u.1) (z.op u.2))
 case h_22 t x ix=>
  obtain⟨h,_⟩:=D9 h;exact P2.all (uD h (z.op u.1) (z.op u.2))
 case h_23 t m k ok=>
  obtain⟨h,_⟩:=D9 h;exact P2.of (sj hW h (z.op u.1) (z.op u.2))
 case h_24=>obtain⟨_,_,h⟩:=C3 h;cases h
 case h_25=>
  split at h
  .obtain⟨_,_,h⟩:=C3 h;cases h
  .cases h
 case h_26 it=>exact P2.of (BQ hW h (z.op u) o.type)
 case h_27 x i=>
  have U:=z.op u;split at h
  .rename_i vs O;rw[O]at U;split at h
   rotate_left
   .cases h
   rename_i a1;obtain⟨h,_⟩:=D9 h;generalize a.eval x=xv at U;cases U with
   |lost v=>exact absurd a1 (by decide)
   |tuple e1 e2=>
    rename_i a6;obtain⟨y,hy,hv⟩:=VRs.get ⟨e1,e2⟩ h;refine P2.all ⟨y,hv,fun W=>?_⟩;have:a6[i]?=some y:=by rw[<-Array.getElem?_toList];exact hy
    simp only[Instr.extract,this,Sem.run_pure]
  .cases h
 case h_28 c=>
  unfold fI at h;split at h
  .rename_i b O;have D:c.args.toList.all C5=true:=by
    simp only[Call.operands,O,Array.toList_append,List.all_append,Bool.and_eq_true]at u;exact u.2
   have:=rr (ty:=o.type) (cs:=c.args.map fun| .const _=>true|_=>false) hW h (z.args D);have e1:(c.args.toList.map a.eval).toArray=c.args.map a.eval:=by apply Array.toList_inj.1;simp
   rw[e1]at this;obtain⟨v',h1,h2⟩:=this;refine⟨v',h1,fun W a3=>?_⟩;have a2:=h2 W a3;simp only[resolve,O,Sem.run_bind,Sem.run_pure,Result.andThen_ok,invoke];exact a2
  .rename_i f O;rw[X]at hc;obtain⟨a8,as,a7⟩:=c;simp only at O;subst O;cases hc
  .cases h
 case h_29=>cases h
def S8(P:Program)(base:Bs)(w0:World)(φ:List Loc)(S:List Blk)(low:Nat)(S':List Blk)(w:World)(s:Sem Next)(v:Value):Prop:=
 ∃v' w' φ',(s.run P w= .ok (.value v') w'\/(s.run P w= .ok .skip w'/\v'=undef))/\Ext φ φ'/\VR φ' v v'/\WR base w0 φ' S' w'/\Fr φ S low w w'
theorem S8.of{u:Nat}{z:List Blk}{s:Sem Value}{v:Value}(h:bK P base w0 φ S u z w s v):S8 P base w0 φ S u z w (do pure (.value (<-s))) v:=by
 obtain⟨v',J,O,D,E⟩:=h;exact⟨v',J,O,.inl (by simp only[Sem.run_bind,D,Result.andThen_ok,Sem.run_pure]),E⟩
theorem S8.skip{u:Nat}{D:List Blk}{s:Sem Unit}(h:∃z,s.run P w= .ok () z/\WR base w0 φ D z/\Fr φ S u w z):S8 P base w0 φ S u D w (do s;pure .skip) undef:=by
 obtain⟨z,E,J,O⟩:=h;exact⟨undef,z,φ,.inr ⟨by simp only[Sem.run_bind,E,Result.andThen_ok,Sem.run_pure],rfl⟩,Ext.refl φ,VR.undef' φ,J,O⟩
theorem rt{b:Builtin}{ts:Array TypeId}{ty:TypeId}{cs:Array Bool}{H H':N7}{args u:LV}{v:Value}(U:WR base w0 φ H.bs w)(h:D7 P b ts.toList args H=some (v,some H'))(W:VRs φ args u):
  S8 P base w0 φ H.bs H'.low H'.bs w (builtin b ts ty cs u.toArray) v:=by
 unfold D7 at h;split at h
 .simp only[Option.map_eq_some_iff,Prod.mk.injEq]at h;obtain⟨v,h,_,D⟩:=h;cases D
 .rename_i s x;obtain⟨y,X,rfl,E,D⟩:=W.of_cons;obtain⟨z,zs,rfl,J,O⟩:=D.of_cons;rw[O.of_nil];have:=tq U h E J ty;simp only[Array.toArray_toList]at this;exact S8.of this
 .rename_i d s;obtain⟨y,X,rfl,E,D⟩:=W.of_cons;obtain⟨z,zs,rfl,J,O⟩:=D.of_cons;rw[O.of_nil];have:=AQ U h E J ty;simp only[Array.toArray_toList]at this;exact S8.of this
 .simp only[Option.map_eq_some_iff,Prod.mk.injEq]at h;obtain⟨v,h,_,D⟩:=h;cases D
 .simp only[Option.map_eq_some_iff,Prod.mk.injEq]at h;obtain⟨v,h,_,D⟩:=h;cases D
 .cases h
theorem L6{x:Option Value}{v:Value}{H':N7}(h:keep x=some (v,some H')):False:=by
 have:=(D9 h).2;cases this
theorem sD{C:A8}{o:Oper}{H H':N7}{v:Value}(O:WR base w0 φ H.bs w)(J:ER φ nt e a)(u:o.op.operands.toList.all C5=true)(hc:isCall o.op=false)(h:aop P C o.op e H=some (v,some H')):
  S8 P base w0 φ H.bs H'.low H'.bs w (execOp a.eval o) v:=by
 unfold aop at h;unfold execOp;split at h<;>rename_i U<;>simp only[U]
 all_goals simp only[U,Op.operands,List.all_cons,List.all_nil,Bool.and_true,Bool.and_eq_true]at u
 all_goals try exact(L6 h).elim
 case h_3=>
  split at h
  .exact(L6 h).elim
  .cases h
 case h_4 t=>
  obtain⟨_,h,D⟩:=C3 h;cases D;simp only[Option.map_eq_some_iff,Prod.mk.injEq]at h;obtain⟨z,hz,rfl,rfl⟩:=h;exact S8.of (tg O hz _)
 case h_5 t x=>
  split at h
  .rename_i a1;obtain⟨_,h,D⟩:=C3 h;cases D;simp only[Option.some.injEq,Prod.mk.injEq]at h;obtain⟨rfl,rfl⟩:=h;exact S8.of (Ax O (J.op u) a1 _)
  .cases h
 case h_7 t a4 E=>
  obtain⟨_,h,D⟩:=C3 h;cases D;have hp:=J.parts (xs:=E) (by simpa [List.all_map] using u);have:=jW O h hp H'.low;have D:(E.map fun(i,x)=>(i,a.eval x))=(E.toList.map fun(i,x)=>(i,a.eval x)).toArray:=by apply Array.toList_inj.1;simp
  rw[D];exact S8.of this
 case h_9 t x y=>
  obtain⟨_,h,D⟩:=C3 h;cases D;simp only[Option.map_eq_some_iff,Prod.mk.injEq]at h;obtain⟨H2,hq,rfl,rfl⟩:=h;exact S8.skip (Cx O hq (J.op u.1) (J.op u.2))
 case h_10=>
  split at h
  .exact(L6 h).elim
  .exact(L6 h).elim
  .cases h
 case h_13 s d x=>exact S8.of (AO O h (J.op u))
 case h_14=>
  split at h
  .exact(L6 h).elim
  .cases h
 case h_15=>
  split at h
  .exact(L6 h).elim
  .cases h
 case h_16 t=>
  obtain⟨_,h,D⟩:=C3 h;cases D;simp only[Option.some.injEq,Prod.mk.injEq]at h;obtain⟨rfl,rfl⟩:=h;exact S8.of (pC O t _)
 case h_17 t l c=>
  obtain⟨_,h,D⟩:=C3 h;cases D;exact S8.of (lJ O h (J.op u.1) (J.op u.2) _)
 case h_24 t m k x=>
  obtain⟨_,h,D⟩:=C3 h;cases D;simp only[Option.map_eq_some_iff,Prod.mk.injEq]at h;obtain⟨H2,hq,rfl,rfl⟩:=h;exact S8.skip (lL O hq (J.op u.1) (J.op u.2.1) (J.op u.2.2))
 case h_25 t x=>
  have hx:=J.op u;split at h
  .rename_i s hu hs;rw[hs]at hx;obtain⟨_,h,D⟩:=C3 h;cases D;simp only[Option.some.injEq,Prod.mk.injEq]at h;obtain⟨rfl,rfl⟩:=h;generalize a.eval x=xv at hx;cases hx;exact S8.of (vi O hu _)
  .cases h
 case h_26 it=>exact S8.of (BS O h (J.op u) o.type)
 case h_27=>
  split at h
  .split at h
   .exact(L6 h).elim
   .cases h
  .cases h
 case h_28 c=>
  unfold fI at h;split at h
  .rename_i b W;have X:c.args.toList.all C5=true:=by
    simp only[Call.operands,W,Array.toList_append,List.all_append,Bool.and_eq_true]at u;exact u.2
   have:=rt (ty:=o.type) (cs:=c.args.map fun| .const _=>true|_=>false) O h (J.args X);have D:(c.args.toList.map a.eval).toArray=c.args.map a.eval:=by apply Array.toList_inj.1;simp
   rw[D]at this;obtain⟨v',w',φ',h1,h2⟩:=this;refine⟨v',w',φ',?_,h2⟩;simp only[resolve,W,Sem.run_bind,Sem.run_pure,Result.andThen_ok,invoke];exact h1
  .rename_i f W;rw[U]at hc;obtain⟨a3,as,a2⟩:=c;simp only at W;subst W;cases hc
  .cases h
 case h_29=>cases h
structure Le(H H':N7):Prop where
 low:H'.low<=H.low
 len:H.bs.length<=H'.bs.length
 same:∀b,b<H'.low->b<H.bs.length->H'.bs[b]?=H.bs[b]?
theorem Le.refl(H:N7):Le H H:=⟨lR,lR,fun _ _ _=>rfl⟩
theorem Le.trans{A B C:N7}(h:Le A B)(k:Le B C):Le A C:=
 ⟨Nat.le_trans k.low h.low,Nat.le_trans h.len k.len,fun b u z=>by rw[k.same b u (Nat.lt_of_lt_of_le z h.len),h.same b (Nat.lt_of_lt_of_le u k.low) z]⟩
theorem Le.push(H:N7)(x:Blk):Le H (H.push x):=
 ⟨lR,by simp [N7.push],fun b _ u=>by simp [N7.push,List.getElem?_append_left u]⟩
theorem Le.put(H:N7)(b:Nat)(x:Blk):Le H (H.put b x):=
 ⟨Nat.min_le_left _ _,by simp [N7.put],fun c u _=>by
  have:c<min H.low b:=u;simp only[N7.put,List.getElem?_set];rw[if_neg oM]⟩
theorem Fr.trans{φ φ':List Loc}{H H' u:N7}{w w' D:World}(hx:Ext φ φ')(hl:Le H H')(z:Le H' u)(W:φ.length=H.bs.length)(h:Fr φ H.bs H'.low w w')(k:Fr φ' H'.bs u.low w' D):Fr φ H.bs u.low w D:=by
 intro b B l J E U X;have O:b<H.bs.length:=(gS E).1;have h2:H'.bs[b]?=some B:=by rw[hl.same b (Nat.lt_of_lt_of_le J z.low) O];exact E
 rw[k b B l J h2 U (hx _ _ X),h b B l (Nat.lt_of_lt_of_le J z.low) E U X]
theorem BB{H H':N7}{ts:List TypeId}{s x v:Value}(h:C2 P H ts s x=some (v,some H')):Le H H':=by
 unfold C2 at h
 repeat' split at h
 all_goals first|(cases h;done)|(simp at h;done)|skip
 all_goals (simp only[Option.some.injEq,Prod.mk.injEq]at h;obtain⟨_,rfl⟩:=h)
 .exact Le.push _ _
 .exact Le.push _ _
 .exact(Le.put _ _ _).trans (Le.push _ _)
theorem HM{H H':N7}{ts:List TypeId}{s x v:Value}(h:kI P H ts s x=some (v,some H')):Le H H':=by
 unfold kI at h
 repeat' split at h
 all_goals first|(cases h;done)|(simp at h;done)|skip
 all_goals (simp only[Option.some.injEq,Prod.mk.injEq]at h;obtain⟨_,rfl⟩:=h)
 exact Le.put _ _ _
theorem xI{b:Builtin}{ts:List TypeId}{args:LV}{H H':N7}{v:Value}(h:D7 P b ts args H=some (v,some H')):Le H H':=by
 unfold D7 at h;split at h
 .simp only[Option.map_eq_some_iff,Prod.mk.injEq]at h;obtain⟨v,h,_,u⟩:=h;cases u
 .exact BB h
 .exact HM h
 .simp only[Option.map_eq_some_iff,Prod.mk.injEq]at h;obtain⟨v,h,_,u⟩:=h;cases u
 .simp only[Option.map_eq_some_iff,Prod.mk.injEq]at h;obtain⟨v,h,_,u⟩:=h;cases u
 .cases h
theorem kU{C:A8}{o:Op}{H H':N7}{v:Value}(W:isCall o=false)(h:aop P C o e H=some (v,some H')):Le H H':=by
 unfold aop at h;split at h
 all_goals try exact(L6 h).elim
 case h_3=>
  split at h
  .exact(L6 h).elim
  .cases h
 case h_4 t=>
  obtain⟨_,h,u⟩:=C3 h;cases u;simp only[Option.map_eq_some_iff,Prod.mk.injEq]at h;obtain⟨z,hz,rfl,rfl⟩:=h;exact Le.push _ _
 case h_5 t x=>
  split at h
  .obtain⟨_,h,u⟩:=C3 h;cases u;simp only[Option.some.injEq,Prod.mk.injEq]at h;obtain⟨rfl,rfl⟩:=h;exact Le.push _ _
  .cases h
 case h_7 t X E=>
  obtain⟨_,h,u⟩:=C3 h;cases u;unfold Q7 at h
  repeat' split at h
  all_goals first|(cases h;done)|skip
  cases h;exact Le.push _ _
 case h_9 t x y=>
  obtain⟨_,h,u⟩:=C3 h;cases u;simp only[Option.map_eq_some_iff,Prod.mk.injEq]at h;obtain⟨H2,D,rfl,rfl⟩:=h;unfold sto at D
  repeat' split at D
  all_goals first|(cases D;done)|skip
  cases D;exact Le.put _ _ _
 case h_10=>
  split at h
  .exact(L6 h).elim
  .exact(L6 h).elim
  .cases h
 case h_13 s d x=>
  unfold Z4 at h
  repeat' split at h
  all_goals first|(cases h;done)|(simp at h;done)|skip
  all_goals (simp only[Option.some.injEq,Prod.mk.injEq]at h;obtain⟨_,rfl⟩:=h)
  .exact Le.push _ _
  .exact Le.push _ _
 case h_14=>
  split at h
  .exact(L6 h).elim
  .cases h
 case h_15=>
  split at h
  .exact(L6 h).elim
  .cases h
 case h_16 t=>
  obtain⟨_,h,u⟩:=C3 h;cases u;simp only[Option.some.injEq,Prod.mk.injEq]at h;obtain⟨rfl,rfl⟩:=h;exact Le.push _ _
 case h_17 t l c=>
  obtain⟨_,h,u⟩:=C3 h;cases u;unfold N0 at h
  repeat' split at h
  all_goals first|(cases h;done)|skip
  cases h;exact Le.push _ _
 case h_24 t m k x=>
  obtain⟨_,h,u⟩:=C3 h;cases u;simp only[Option.map_eq_some_iff,Prod.mk.injEq]at h;obtain⟨H2,D,rfl,rfl⟩:=h;unfold Y7 at D
  repeat' split at D
  all_goals first|(cases D;done)|skip
  all_goals cases D
  .exact Le.put _ _ _
  .exact Le.put _ _ _
 case h_25 t x=>
  split at h
  .obtain⟨_,h,u⟩:=C3 h;cases u;simp only[Option.some.injEq,Prod.mk.injEq]at h;obtain⟨rfl,rfl⟩:=h;exact Le.push _ _
  .cases h
 case h_26 it=>
  unfold jB at h
  repeat' split at h
  all_goals first|(cases h;done)|(simp at h;done)|skip
  simp only[Option.some.injEq,Prod.mk.injEq]at h;obtain⟨_,rfl⟩:=h;exact Le.put _ _ _
 case h_27=>
  split at h
  .split at h
   .exact(L6 h).elim
   .cases h
  .cases h
 case h_28 c=>
  unfold fI at h;split at h
  .exact xI h
  .rename_i f J;obtain⟨U,as,O⟩:=c;simp only at J;subst J;cases W
  .cases h
 case h_29=>cases h
def dv(P:Program)(g:FuncId):Prop:=∃fn,P.funcs[g]?=some fn/\(fn.name== "runtime.NumGoroutine")=false/\fn.body.isNone=false
def bP(P:Program)(base:Bs)(w0:World)(C:A8):Prop:=
 ∀g args H v r,C g args H=some (v,r)->dv P g/\(∀H',r=some H'->Le H H')/\(r=none->L9 v=true)/\
  ∀(φ:List Loc)(w:World)(args':LV),VRs φ args args'->WR base w0 φ H.bs w->
   Calls P g args'.toArray w fun en w'=>match r with
    |none=>en= .returned v/\Cls base w0 φ H.bs w w'
    |some H'=>∃v' φ',en= .returned v'/\Ext φ φ'/\VR φ' v v'/\WR base w0 φ' H'.bs w'/\Fr φ H.bs H'.low w w'
theorem jJ{g:FuncId}(h:dv P g)(args:Array Value)(w:World):(callFunc g args).run P w= .ok (.enter g args) w:=by
 obtain⟨E,u,z,D⟩:=h;simp only[callFunc,Sem.run_bind,run_program,Result.andThen_ok,u,z,D,bF,Sem.run_pure]
theorem ci{c:Call}{f:Operand}{g:FuncId}{first u:Array Value}(z:c.callee= .value f){ty:TypeId}(J:a.eval f= .func (.func g) first u)(D:dv P g){o:Oper}(E:o.op= .call c)(w:World):
  (execOp a.eval o).run P w= .ok (.enter g (first++c.args.map a.eval++u)) w:=by
 unfold execOp;simp only[E,resolve,z,J,Deferred.ofValue,Sem.run_bind,Sem.run_pure,Result.andThen_ok,invoke,jJ D]
end
section
variable{ops:Array Oper}{A:List Nat}
structure pi(ops:Array Oper)(A:List Nat):Prop where
 sel:Region.noSelect ops=true
 back:∀(i:Nat) oi,ops[i]?=some oi->∀d∈U2 oi,d<i
 anc:∀(i k:Nat) oi,ops[i]?=some oi->k<ops.size->isAnc A i k=true->∃d∈U2 oi,d=k\/isAnc A d k=true
 look:∀(i k:Nat) oi ok d,ops[i]?=some oi->ops[k]?=some ok->ok.dst=some d->d∈oi.looksAt ops->(k<i/\isAnc A i k=true)\/(i<k/\isAnc A k i=true)
 dst:∀(i k:Nat) oi ok d,ops[i]?=some oi->ops[k]?=some ok->oi.dst=some d->ok.dst=some d->i=k
 flo:∀(i k:Nat) oi ok d,ops[i]?=some oi->ops[k]?=some ok->az ok.op=true->ok.dst=some d->(A9 oi.op=true/\az oi.op=false)\/d∉oi.looksAt ops
 ord:∀(i k:Nat) oi ok,ops[i]?=some oi->ops[k]?=some ok->k<i->A9 oi.op=true->az oi.op=false->A9 ok.op=true->isAnc A i k=true
 free:∀(i:Nat) oi,ops[i]?=some oi->az oi.op=true->oi.guard=none/\∃d,oi.dst=some d
theorem Q8{i:Nat}{o:Oper}(h:ops[i]?=some o):i<ops.size:=(gA h).1
theorem Rm(h:kX ops A=true):pi ops A:=by
 simp only[kX,Bool.and_eq_true,List.all_eq_true,List.mem_range]at h;have J:∀(i:Nat) u,ops[i]?=some u->kl ops A i u=true:=fun i u z=>by
  have:=h.2 i (Q8 z);simpa only[z] using this
 have h2:∀(i k:Nat) u ok,ops[i]?=some u->ops[k]?=some ok->mc ops A i k u ok=true:=fun i k u ok z D=>by
  have:=J i u z;simp only[kl,Bool.and_eq_true,List.all_eq_true,List.mem_range]at this;have:=this.1.2 k (Q8 D);simpa only[D] using this
 have O:∀(i k:Nat) u ok d,ops[i]?=some u->ops[k]?=some ok->ok.dst=some d->
   ((!(u.looksAt ops).contains d||(if k<i then isAnc A i k else if i<k then isAnc A k i else false))=true/\(k==i||u.dst !=some d)=true)/\(!az ok.op||((A9 u.op&& !az u.op)|| !(u.looksAt ops).contains d))=true:=fun i k u ok d z D E=>by
  have:=h2 i k u ok z D;simp only[mc,E,Bool.and_eq_true]at this;exact this.1
 refine⟨h.1,fun i u z d E=>?_,fun i k u z D ha=>?_,fun i k u ok d z D E hl=>?_,fun i k u ok d z D S U=>?_,fun i k u ok d z D W E=>?_,fun i k u ok z D X t1 f1 t2=>?_,fun i u z W=>?_⟩
 .have:=J i u z;simp only[kl,Bool.and_eq_true,List.all_eq_true,decide_eq_true_eq]at this;exact this.1.1.1 d E
 .have:=J i u z;simp only[kl,Bool.and_eq_true,List.all_eq_true,List.mem_range]at this;have:=this.1.1.2 k D;rw[ha]at this
  simpa using this
 .have:=(O i k u ok d z D E).1.1;have hc:(u.looksAt ops).contains d=true:=by simpa using hl
  rw[hc]at this;simp only[Bool.not_true,Bool.false_or]at this;split at this
  .exact .inl ⟨by assumption,this⟩
  .split at this
   .exact .inr ⟨by assumption,this⟩
   .cases this
 .have:=(O i k u ok d z D U).1.2;rw[S]at this;simp at this;exact this.symm
 .have:=(O i k u ok d z D E).2;rw[W]at this;simp at this;rcases this with h|h
  .exact .inl h
  .exact .inr (by simpa using h)
 .have:=h2 i k u ok z D;simp only[mc,Bool.and_eq_true]at this;have:=this.2;rw[t1,f1,t2,decide_eq_true X]at this
  simpa using this
 .have:=J i u z;simp only[kl,Bool.and_eq_true]at this;have:=this.2;rw[W]at this;simp at this;exact⟨this.1,Option.isSome_iff_exists.1 this.2⟩
theorem pi.anc_lt(O:pi ops A):∀(i k:Nat) z,ops[i]?=some z->k<ops.size->isAnc A i k=true->k<i:=by
 intro i;induction i using Nat.strongRecOn with
 |ind i W=>
  intro k z J S h;obtain⟨d,U,D⟩:=O.anc i k z J S h;have u:=O.back i z J d U;rcases D with rfl|D
  .exact u
  .have E:d<ops.size:=oN (Q8 J);have:=W d u k _ (Array.getElem?_eq_getElem E) S D;omega
theorem pi.done(U:pi ops A){L:Nat->Prop}(hL:∀(j:Nat) oj,ops[j]?=some oj->L j->∀d∈U2 oj,L d):∀(i k:Nat) D,ops[i]?=some D->k<ops.size->(∀d∈U2 D,L d)->isAnc A i k=true->L k:=by
 intro i;induction i using Nat.strongRecOn with
 |ind i ih=>
  intro k D S X W h;obtain⟨d,u,E⟩:=U.anc i k D S X h;have J:=U.back i D S d u;rcases E with rfl|E
  .exact W d u
  .have O:d<ops.size:=oN (Q8 S);have z:ops[d]?=some ops[d]:=Array.getElem?_eq_getElem O;exact ih d J k _ z X (hL d _ z (W d u)) E
def nT(ops:Array Oper)(i:Nat):Nat:=((ops.toList.take i).filter fun o=>A9 o.op).length
theorem zF:nT ops 0=0:=rfl
theorem jy{i:Nat}{o:Oper}(h:ops[i]?=some o):nT ops (i+1)=nT ops i+if A9 o.op=true then 1 else 0:=by
 have u:ops.toList[i]?=some o:=by simpa using h
 unfold nT;rw[List.take_add_one,u,List.filter_append,List.length_append]
 congr 1
 simp only[Option.toList_some,List.filter_cons,List.filter_nil];split<;>simp
theorem HY(i:Nat):nT ops i<=nT ops (i+1):=by
 cases h:ops[i]? with
 |some o=>rw[jy h];omega
 |none=>
  have:ops.size<=i:=by simpa using h
  unfold nT;rw[List.take_of_length_le (by simpa using this),List.take_of_length_le (by simp;omega)];exact lR
theorem sC{i k:Nat}(h:i<=k):nT ops i<=nT ops k:=by
 induction k with
 |zero=>
  have:i=0:=oM;subst this;exact lR
 |succ k z=>
  by_cases u:i=k+1
  .subst u;exact lR
  .exact Nat.le_trans (z oM) (HY k)
theorem ij{i k:Nat}{o:Oper}(h:ops[i]?=some o)(z:A9 o.op=true)(D:i<k):nT ops i<nT ops k:=by
 have u:=jy h;rw[if_pos z]at u;have:=sC (ops:=ops) (show i+1<=k from oM);omega
theorem sB{i k:Nat}{u ok:Oper}(z:ops[i]?=some u)(D:ops[k]?=some ok)(E:A9 u.op=true)(J:A9 ok.op=true)(h:nT ops i=nT ops k):i=k:=by
 rcases Nat.lt_trichotomy i k with q|q|q
 .have:=ij z E q;omega
 .exact q
 .have:=ij D J q;omega
theorem JA:∀(n m:Nat),m<nT ops n->∃i o,i<n/\ops[i]?=some o/\A9 o.op=true/\nT ops i=m:=by
 intro n;induction n with
 |zero=>intro m h;rw[zF]at h;omega
 |succ n O=>
  intro m h;by_cases D:m<nT ops n
  .obtain⟨i,o,S,z⟩:=O m D;exact⟨i,o,oM,z⟩
  .cases u:ops[n]? with
   |none=>
    have E:ops.size<=n:=by simpa using u
    have:nT ops (n+1)=nT ops n:=by
     unfold nT;rw[List.take_of_length_le (by simp;omega),List.take_of_length_le (by simp;omega)]
    omega
   |some o=>
    rw[jy u]at h;split at h
    .rename_i J;exact⟨n,o,oM,u,J,oM⟩
    .omega
def isT(ops:Array Oper)(i:Nat):Bool:=match ops[i]? with|some o=>A9 o.op|none=>false
theorem uI{i:Nat}{o:Oper}(h:ops[i]?=some o):isT ops i=A9 o.op:=by simp [isT,h]
theorem jk:∀c,((List.range c).filter (isT ops)).length=nT ops c:=by
 intro c;induction c with
 |zero=>rfl
 |succ c z=>
  rw[List.range_succ,List.filter_append,List.length_append,z];cases h:ops[c]? with
  |some o=>
   rw[jy h]
   congr 1
   simp only[List.filter_cons,uI h,List.filter_nil];split<;>rfl
  |none=>
   have u:ops.size<=c:=by simpa using h
   have:nT ops (c+1)=nT ops c:=by
    unfold nT;rw[List.take_of_length_le (by simp;omega),List.take_of_length_le (by simp;omega)]
   rw[this];simp [isT,h]
theorem qU{c:Nat}{o:Oper}(h:ops[c]?=some o)(z:A9 o.op=true):(T6 ops)[nT ops c]?=some c:=by
 have key:∀n,c<n->((List.range n).filter (isT ops))[nT ops c]?=some c:=by
  intro n;induction n with
  |zero=>intro h;omega
  |succ n D=>
   intro E;rw[List.range_succ,List.filter_append];by_cases u:c<n
   .rw[List.getElem?_append_left]
    .exact D u
    .rw[jk];exact ij h z u
   .have:c=n:=oM;subst this;rw[List.getElem?_append_right (by rw[jk];exact lR),jk,Nat.sub_self];simp [uI h,z]
 exact key ops.size (Q8 h)
theorem zV{α:Type}(q:α->Bool):∀(l:List α)(j:Nat),(j<(l.takeWhile q).length->∃x,l[j]?=some x/\q x=true)/\((l.takeWhile q).length<j->j<=l.length->∃x,l[(l.takeWhile q).length]?=some x/\q x=false)
 |[],j=>⟨fun h=>by simp at h,fun h k=>by simp at h k;omega⟩
 |a::l,j=>by
  rw[List.takeWhile_cons];cases h:q a with
  |true=>
   simp only[if_true,List.length_cons];refine⟨fun D=>?_,fun D E=>?_⟩
   .cases j with
    |zero=>exact⟨a,rfl,h⟩
    |succ j=>obtain⟨x,u,z⟩:=(zV q l j).1 oM;exact⟨x,by simpa using u,z⟩
   .obtain⟨x,u,z⟩:=(zV q l (j-1)).2 oM oM;exact⟨x,by simpa using u,z⟩
  |false=>
   simp only[bF,List.length_nil];exact⟨fun D=>oM,fun D E=>⟨a,rfl,h⟩⟩
def bX(ops:Array Oper)(A:List Nat)(i:Nat):Nat×Nat:=sv A (T6 ops) i
theorem Gc{i j:Nat}(h:j<(bX ops A i).1):∃c o,ops[c]?=some o/\A9 o.op=true/\nT ops c=j/\isAnc A i c=true:=by
 obtain⟨c,E,S⟩:=(zV (fun c=>isAnc A i c) (T6 ops) j).1 h;have z:c∈T6 ops:=mG E;simp only[T6,List.mem_filter,List.mem_range]at z;obtain⟨o,D⟩:∃o,ops[c]?=some o:=⟨ops[c],Array.getElem?_eq_getElem z.1⟩
 have O:A9 o.op=true:=by have:=z.2;simpa [D] using this
 refine⟨c,o,D,O,?_,S⟩;have J:=qU D O;have U:(T6 ops).Nodup:=List.Pairwise.filter _ List.nodup_range;have u:nT ops c<(T6 ops).length:=(gS J).1;exact((List.getElem?_inj u U).1 (J.trans E.symm))
theorem MJ{i j:Nat}(h:(bX ops A i).2<j)(W:j<=nT ops ops.size):∃c o,ops[c]?=some o/\A9 o.op=true/\nT ops c<j/\isAnc A c i=true:=by
 have X:(T6 ops).length=nT ops ops.size:=jk ops.size;obtain⟨c,E,S⟩:=(zV (fun c=> !isAnc A c i) (T6 ops) j).2 h oM;have z:c∈T6 ops:=mG E;simp only[T6,List.mem_filter,List.mem_range]at z;obtain⟨o,D⟩:∃o,ops[c]?=some o:=⟨ops[c],Array.getElem?_eq_getElem z.1⟩
 have O:A9 o.op=true:=by have:=z.2;simpa [D] using this
 refine⟨c,o,D,O,?_,by simpa using S⟩;have J:=qU D O;have U:(T6 ops).Nodup:=List.Pairwise.filter _ List.nodup_range;have u:nT ops c<(T6 ops).length:=(gS J).1;have:nT ops c=(bX ops A i).2:=(List.getElem?_inj u U).1 (J.trans E.symm);omega
structure Tr(P:Program)(C:A8)(ops:Array Oper)(A:List Nat)(n:Nat)(E:Nat->Env)(V:Nat->Value)(K:Nat->N7):Prop where
 step:∀(i:Nat) o,i<n->ops[i]?=some o->E (i+1)=I3 (E i) o.dst (V i)
 nl:∀(i:Nat) o,i<n->ops[i]?=some o->X4 ops (E i) o=false
 off:∀(i:Nat) o,i<n->ops[i]?=some o->E0 ops (E i) o=false->V i=undef/\(A9 o.op=true->K (nT ops i+1)=K (nT ops i))
 turn:∀(i:Nat) o,i<n->ops[i]?=some o->E0 ops (E i) o=true->A9 o.op=true->∃r,aop P C o.op (E i) (K (nT ops i))=some (V i,r)/\K (nT ops i+1)=r.getD (K (nT ops i))
 pure:∀(i:Nat) o,i<n->ops[i]?=some o->E0 ops (E i) o=true->A9 o.op=false->rdK o.op=true->∀j,j<=nT ops n->(bX ops A i).1<=j->j<=(bX ops A i).2->aop P noC o.op (E i) (K j)=some (V i,none)
 flat:∀(i:Nat) o,i<n->ops[i]?=some o->E0 ops (E i) o=true->A9 o.op=false->rdK o.op=false->∀H2,aop P noC o.op (E i) H2=some (V i,none)
theorem tR{P:Program}:∀{z:List (Op×Env×Value×Nat)}{j:Nat}{H:N7},rz P z j H->∀o e v D,(o,e,v,D)∈z->j<=D->aop P noC o e H=some (v,none)
 |(o',e',v',hi')::r,j,H,h,o,e,v,D,u,hj=>by
  rcases List.mem_cons.1 u with u|u
  .cases u;exact h.1 hj
  .exact tR h.2 o e v D u hj
theorem tQ{P:Program}{o:Op}{e:Env}{v:Value}{lo:Nat}:∀{z:List (Nat×N7)},ry P o e v lo z->∀j K,(j,K)∈z->lo<=j->aop P noC o e K=some (v,none)
 |(j',K')::r,h,j,K,u,hj=>by
  rcases List.mem_cons.1 u with u|u
  .cases u;exact h.1 hj
  .exact tQ h.2 j K u hj
theorem wj{P:Program}{C:A8}{o:Op}{e:Env}{H H2:N7}(z:A9 o=false)(u:rdK o=false):aop P C o e H=aop P C o e H2:=by
 cases o<;>simp only[A9,rdK,Bool.true_eq_false,Bool.false_eq_true]at z u<;>rfl
theorem EU{i:Nat}{o:Oper}(h:ops[i]?=some o):(jw ops).drop i=(o,bX ops (E4 ops.toList []) i)::(jw ops).drop (i+1):=by
 have u:i<(jw ops).length:=by simp [jw];exact Q8 h
 rw[List.drop_eq_getElem_cons u]
 congr 1
 have z:ops.toList[i]?=some o:=by simpa using h
 have:(jw ops)[i]?=some (o,bX ops (E4 ops.toList []) i):=by
  simp only[jw,List.getElem?_map,List.getElem?_zipIdx,z,Option.map_some,Nat.zero_add];rfl
 exact Option.some.inj ((List.getElem?_eq_getElem u).symm.trans this)
theorem BI{P:Program}{C:A8}(hM:pi ops (E4 ops.toList [])){e':Env}{H':N7}:∀(g i:Nat)(t:Nat)(Ks:List (Nat×N7))(X:List (Op×Env×Value×Nat))(E:Nat->Env)(V:Nat->Value)(K:Nat->N7),g+i=ops.size->t=nT ops i->
  Tr P C ops (E4 ops.toList []) i E V K->(∀j,j<nT ops i->(j,K j)∈Ks)->(∀(x:Nat) o,x<i->ops[x]?=some o->E0 ops (E x) o=true->A9 o.op=false->rdK o.op=true->(o.op,E x,V x,(bX ops (E4 ops.toList []) x).2)∈X)->
  I7 P C ops t Ks X ((jw ops).drop i) (E i) (K (nT ops i))=some (e',H')->
  ∃E' V' K',Tr P C ops (E4 ops.toList []) ops.size E' V' K'/\E' 0=E 0/\K' 0=K 0/\E' ops.size=e'/\K' (nT ops ops.size)=H':=by
 intro g;induction g with
 |zero=>
  intro i t Ks X E V K hg W hT hK hO h;have:i=ops.size:=oM;subst this;rw[dN (by simp [jw])]at h;simp only[I7,Option.some.injEq,Prod.mk.injEq]at h;exact⟨E,V,K,hT,rfl,rfl,h.1,h.2⟩
 |succ g ih=>
  intro i t Ks X E V K hg W hT hK hO h;subst W;obtain⟨o,ho⟩:∃o,ops[i]?=some o:=⟨ops[i]'oM,Array.getElem?_eq_getElem oM⟩
  rw[EU ho]at h;obtain⟨d5,d4⟩:∃a b,bX ops (E4 ops.toList []) i=(a,b):=⟨_,_,rfl⟩
  have D:=jy ho;rw[show bX ops (E4 ops.toList []) i=((bX ops (E4 ops.toList []) i).1,(bX ops (E4 ops.toList []) i).2) from rfl]at h;simp only[I7]at h;split at h
  .cases h
  rename_i a9;have a9:X4 ops (E i) o=false:=by simpa using a9
  have a2:∀(v:Value)(H2:N7)(a3:List (Nat×N7))(a1:List (Op×Env×Value×Nat)),
    (A9 o.op=false->H2=K (nT ops i))->
    (E0 ops (E i) o=false->v=undef/\H2=K (nT ops i))->
    (E0 ops (E i) o=true->A9 o.op=true->∃r,aop P C o.op (E i) (K (nT ops i))=some (v,r)/\H2=r.getD (K (nT ops i)))->
    (E0 ops (E i) o=true->A9 o.op=false->rdK o.op=true->∀j,j<=nT ops i->(bX ops (E4 ops.toList []) i).1<=j->aop P noC o.op (E i) (K j)=some (v,none))->
    (E0 ops (E i) o=true->A9 o.op=false->rdK o.op=false->∀H2,aop P noC o.op (E i) H2=some (v,none))->
    (A9 o.op=true->∀(x:Nat) U,x<i->ops[x]?=some U->E0 ops (E x) U=true->A9 U.op=false->rdK U.op=true->nT ops i+1<=(bX ops (E4 ops.toList []) x).2->aop P noC U.op (E x) H2=some (V x,none))->
    (∀j,j<nT ops i->(j,K j)∈a3)->(A9 o.op=true->(nT ops i,K (nT ops i))∈a3)->
    (∀q,q∈X->q∈a1)->(E0 ops (E i) o=true->A9 o.op=false->rdK o.op=true->(o.op,E i,v,(bX ops (E4 ops.toList []) i).2)∈a1)->
    I7 P C ops (nT ops (i+1)) a3 a1 ((jw ops).drop (i+1)) (I3 (E i) o.dst v) H2=some (e',H')->
    ∃E' V' K',Tr P C ops (E4 ops.toList []) ops.size E' V' K'/\E' 0=E 0/\K' 0=K 0/\E' ops.size=e'/\K' (nT ops ops.size)=H':=by
   intro v H2 a3 a1 c3 c4 c5 c6 c8 c7 c9 d0 d1 d2 hr;obtain⟨E2,b3⟩:=eY (fun x=>if x<=i then E x else I3 (E i) o.dst v:Nat->Env);obtain⟨V2,b5⟩:=eY (fun x=>if x=i then v else V x:Nat->Value);obtain⟨K2,b4⟩:=eY (fun x=>if x<=nT ops i then K x else H2:Nat->N7);have eE:∀x,x<=i->E2 x=E x:=fun x hx=>by rw[b3];exact if_pos hx
   have b2:E2 (i+1)=I3 (E i) o.dst v:=by rw[b3];exact if_neg oM
   have eV:∀x,x≠i->V2 x=V x:=fun x hx=>by rw[b5];exact if_neg hx
   have a4:V2 i=v:=by rw[b5];exact if_pos rfl
   have eK:∀x,x<=nT ops i->K2 x=K x:=fun x hx=>by rw[b4];exact if_pos hx
   have a6:A9 o.op=true->K2 (nT ops i+1)=H2:=fun _=>by rw[b4];exact if_neg oM
   have b9:K2 (nT ops (i+1))=H2:=by
    cases u:A9 o.op with
    |true=>rw[D,if_pos u];exact a6 u
    |false=>rw[D,if_neg (by simp [u]),Nat.add_zero,eK _ lR,c3 u]
   have b7:∀x,x<i->nT ops x<=nT ops i:=fun x hx=>sC oM;have b8:∀(x:Nat) U,x<i->ops[x]?=some U->A9 U.op=true->nT ops x+1<=nT ops i:=fun x U hx h1 h2=>ij h1 h2 hx;have c0:Tr P C ops (E4 ops.toList []) (i+1) E2 V2 K2:=by
    refine⟨fun x U hx z=>?_,fun x U hx z=>?_,fun x U hx z O=>?_,fun x U hx z O W=>?_,fun x U hx z O W J j hj a7 b6=>?_,fun x U hx z O W J H3=>?_⟩
    .by_cases S:x=i
     .subst S;have:U=o:=Option.some.inj (z.symm.trans ho);subst this;rw[b2,eE x lR,a4]
     .rw[eE (x+1) oM,eE x oM,eV x S];exact hT.step x U oM z
    .by_cases S:x=i
     .subst S;have:U=o:=Option.some.inj (z.symm.trans ho);subst this;rw[eE x lR];exact a9
     .rw[eE x oM];exact hT.nl x U oM z
    .by_cases S:x=i
     .subst S;have:U=o:=Option.some.inj (z.symm.trans ho);subst this;rw[eE x lR]at O;obtain⟨q1,q2⟩:=c4 O;exact⟨by rw[a4];exact q1,fun W=>by rw[a6 W,eK _ lR];exact q2⟩
     .rw[eE x oM]at O;obtain⟨q1,q2⟩:=hT.off x U oM z O;exact⟨by rw[eV x S];exact q1,fun W=>by rw[eK _ (b8 x U oM z W),eK _ (b7 x oM)];exact q2 W⟩
    .by_cases S:x=i
     .subst S;have:U=o:=Option.some.inj (z.symm.trans ho);subst this;rw[eE x lR]at O ⊢;rw[eK _ lR,a4,a6 W];exact c5 O W
     .rw[eE x oM]at O ⊢;rw[eV x S,eK _ (b7 x oM),eK _ (b8 x U oM z W)];exact hT.turn x U oM z O W
    .by_cases S:x=i
     .subst S;have:U=o:=Option.some.inj (z.symm.trans ho);subst this;rw[eE x lR]at O ⊢;rw[D,if_neg (by simp [W]),Nat.add_zero]at hj;rw[a4,eK j hj];exact c6 O W J j hj a7
     .rw[eE x oM]at O ⊢;rw[eV x S];by_cases a5:j<=nT ops i
      .rw[eK j a5];exact hT.pure x U oM z O W J j a5 a7 b6
      .cases u:A9 o.op with
       |false=>rw[D,if_neg (by simp [u])]at hj;omega
       |true=>
        rw[D,if_pos u]at hj;have:j=nT ops i+1:=oM;subst this;rw[a6 u];exact c7 u x U oM z O W J b6
    .by_cases S:x=i
     .subst S;have:U=o:=Option.some.inj (z.symm.trans ho);subst this;rw[eE x lR]at O ⊢;rw[a4];exact c8 O W J H3
     .rw[eE x oM]at O ⊢;rw[eV x S];exact hT.flat x U oM z O W J H3
   have d3:I7 P C ops (nT ops (i+1)) a3 a1 ((jw ops).drop (i+1)) (E2 (i+1)) (K2 (nT ops (i+1)))=some (e',H'):=by rw[b2,b9];exact hr
   obtain⟨E',V',K',q1,q2,q3,q4⟩:=ih (i+1) _ a3 a1 E2 V2 K2 oM rfl c0 (fun j hj=>by
     by_cases a5:j<nT ops i
     .rw[eK j oM];exact c9 j a5
     .cases u:A9 o.op with
      |false=>rw[D,if_neg (by simp [u])]at hj;omega
      |true=>
       rw[D,if_pos u]at hj;have:j=nT ops i:=oM;subst this;rw[eK _ lR];exact d0 u) (fun x U hx z O W J=>by
     by_cases S:x=i
     .subst S;have:U=o:=Option.some.inj (z.symm.trans ho);subst this;rw[eE x lR]at O ⊢;rw[a4];exact d2 O W J
     .rw[eE x oM]at O ⊢;rw[eV x S];exact d1 _ (hO x U oM z O W J)) d3
   exact⟨E',V',K',q1,by rw[q2,eE 0 oM],by rw[q3,eK 0 oM],q4⟩
  cases O:E0 ops (E i) o with
  |true=>
   rw[if_pos O]at h;cases u:A9 o.op with
   |true=>
    rw[if_pos u]at h;split at h
    .rename_i v r a8;split at h
     .rename_i hc;refine a2 v (r.getD (K (nT ops i))) _ X (fun q=>by rw[u]at q;cases q) (fun q=>by rw[O]at q;cases q) (fun _ _=>⟨r,a8,rfl⟩) (fun _ q=>by rw[u]at q;cases q) (fun _ q=>by rw[u]at q;cases q) (fun _ x U hx z b1 b0 J h2=>tR hc _ _ _ _ (hO x U hx z b1 b0 J) h2)
       (fun j hj=>List.mem_cons_of_mem _ (hK j hj)) (fun _=>List.mem_cons_self ..) (fun q hq=>hq) (fun _ q=>by rw[u]at q;cases q) ?_
      rw[D,if_pos u];exact h
     .cases h
    .cases h
   |false=>
    rw[if_neg (by simp [u])]at h;split at h
    .rename_i v a8;have hn:nT ops (i+1)=nT ops i:=by rw[D,if_neg (by simp [u])];rfl
     cases J:rdK o.op with
     |true=>
      rw[if_pos J]at h;split at h
      .rename_i hc;refine a2 v (K (nT ops i)) Ks ((o.op,E i,v,(bX ops (E4 ops.toList []) i).2)::X) (fun _=>rfl) (fun q=>by rw[O]at q;cases q) (fun _ q=>by rw[u]at q;cases q) (fun _ _ _ j hj a7=>?_) (fun _ _ q=>by rw[J]at q;cases q) (fun q=>by rw[u]at q;cases q)
        hK (fun q=>by rw[u]at q;cases q) (fun q hq=>List.mem_cons_of_mem _ hq) (fun _ _ _=>List.mem_cons_self ..) ?_
       .by_cases a5:j<nT ops i
        .exact tQ hc j _ (hK j a5) a7
        .have:j=nT ops i:=oM;subst this;exact a8
       .rw[hn];exact h
      .cases h
     |false=>
      rw[if_neg (by simp [J])]at h;refine a2 v (K (nT ops i)) Ks X (fun _=>rfl) (fun q=>by rw[O]at q;cases q) (fun _ q=>by rw[u]at q;cases q) (fun _ _ q=>by rw[J]at q;cases q) (fun _ _ _ H3=>by rw[wj u J (H2:=K (nT ops i))];exact a8) (fun q=>by rw[u]at q;cases q)
       hK (fun q=>by rw[u]at q;cases q) (fun q hq=>hq) (fun _ _ q=>by rw[J]at q;cases q) ?_
      rw[hn];exact h
    .cases h
  |false=>
   rw[if_neg (by simp [O])]at h;cases u:A9 o.op with
   |true=>
    rw[if_pos u]at h;refine a2 undef (K (nT ops i)) _ X (fun _=>rfl) (fun _=>⟨rfl,rfl⟩) (fun q=>by rw[O]at q;cases q) (fun q=>by rw[O]at q;cases q) (fun q=>by rw[O]at q;cases q) (fun _ x U hx z b1 b0 J h2=>?_)
     (fun j hj=>List.mem_cons_of_mem _ (hK j hj)) (fun _=>List.mem_cons_self ..) (fun q hq=>hq) (fun q=>by rw[O]at q;cases q) ?_
    .refine hT.pure x U hx z b1 b0 J (nT ops i) lR ?_ oM;apply Classical.byContradiction;intro hn;obtain⟨c,oc,h3,h4,h5,h6⟩:=Gc (ops:=ops) (A:=E4 ops.toList []) (i:=x) (j:=nT ops i) oM;have h7:=hM.anc_lt x c U z (Q8 h3) h6;have h8:=ij h3 h4 h7;have h9:=sC (ops:=ops) (show x<=i from oM);omega
    .rw[D,if_pos u];exact h
   |false=>
    rw[if_neg (by simp [u])]at h;refine a2 undef (K (nT ops i)) Ks X (fun _=>rfl) (fun _=>⟨rfl,rfl⟩) (fun q=>by rw[O]at q;cases q) (fun q=>by rw[O]at q;cases q) (fun q=>by rw[O]at q;cases q) (fun q=>by rw[u]at q;cases q)
     hK (fun q=>by rw[u]at q;cases q) (fun q hq=>hq) (fun q=>by rw[O]at q;cases q) ?_
    rw[D,if_neg (by simp [u]),Nat.add_zero];exact h
theorem Ir{e e':Env}{x:Operand}(h:∀t,x= .tmp t->e.get t=e'.get t):opv e x=opv e' x:=by
 cases x<;>first|rfl|exact h _ rfl
theorem Ak{P:Program}{C:A8}{e e':Env}(o:Op)(H:N7)(h:∀x∈o.operands.toList,opv e x=opv e' x):aop P C o e H=aop P C o e' H:=by
 have X:∀z:Array (Nat×Operand),(∀x∈z.toList.map (·.2),opv e x=opv e' x)->(z.toList.map fun(i,x)=>(i,opv e x))=(z.toList.map fun(i,x)=>(i,opv e' x)):=fun z E=>by
  apply List.map_congr_left;intro q hq;obtain⟨i,x⟩:=q;simp only[Prod.mk.injEq,true_and];exact E x (List.mem_map.2 ⟨(i,x),hq,rfl⟩)
 have S:∀z:Array Operand,(∀x∈z.toList,opv e x=opv e' x)->z.toList.map (opv e)=z.toList.map (opv e'):=fun z E=>List.map_congr_left E;have U:∀x:Option Operand,(∀y∈x.toList,opv e y=opv e' y)->x.map (opv e)=x.map (opv e'):=fun x E=>by
  cases x with
  |none=>rfl
  |some y=>simp only[Option.map_some,Option.some.injEq];exact E y sM
 cases o
 case call c=>
  obtain⟨O,as,a1⟩:=c;simp only[Op.operands,Call.operands,Array.toList_append,List.mem_append]at h;have W:=S as fun x D=>h x (.inr D);cases O with
  |value f=>
   have hf:=h f (.inl sM);simp only[aop,fI,hf,W]
  |builtin b=>simp only[aop,fI,W]
  |invoke r m=>rfl
 case build t z=>simp only[aop];rw[X z (fun x D=>h x (by simpa [Op.operands] using D))]
 case buildSlice t n z=>simp only[aop];rw[X z (fun x D=>h x (by simpa [Op.operands] using D))]
 case makeFunc fn first u=>
  simp only[Op.operands,Array.toList_append,List.mem_append]at h;simp only[aop];rw[S first (fun x D=>h x (.inl D)),S u (fun x D=>h x (.inr D))]
 case slice t x lo hi mx=>
  simp only[Op.operands,Array.toList_append,List.mem_append,Option.toList_toArray]at h;simp only[aop];rw[h x (.inl (.inl (.inl sM))),U lo (fun y J=>h y (.inl (.inl (.inr J)))),U hi (fun y J=>h y (.inl (.inr J))),U mx (fun y J=>h y (.inr J))]
 case makeMap t r=>cases r<;>rfl
 case next it b=>
  simp only[Op.operands,List.mem_cons,List.not_mem_nil,or_false,forall_eq]at h;cases b
  .rfl
  .simp only[aop,h]
 all_goals first
  |rfl
  |(simp only[Op.operands,List.mem_cons,List.not_mem_nil,or_false,forall_eq_or_imp,forall_eq]at h
    simp only[aop,h])
end
section
variable{P:Program}{base:Bs}{w0:World}{φ:List Loc}{S:List Blk}{w:World}{nt:Nat}{e:Env}{a:Act}
def hU(base:Bs)(w0:World)(φ:List Loc)(H:N7)(w:World)(nt:Nat)(ds:List Deferred)(e':Env)(H':N7)(K:Act->World->Prop):Prop:=
 ∀φ' a' w',Ext φ φ'->ER φ' nt e' a'->WR base w0 φ' H'.bs w'->Fr φ H.bs H'.low w w'->a'.defers=ds->K a' w'
theorem Z7{ops:Array Oper}(h:fw nt ops=true){o:Oper}(u:o∈ops.toList):o.op.operands.toList.all C5=true/\fo nt o.dst=true:=by
 have:=List.all_eq_true.1 h o u
 simpa only[Bool.and_eq_true] using this
theorem V6{ops:Array Oper}(h:fw nt ops=true)(j:Nat)(u:Oper)(d:Nat)(J:ops[j]?=some u)(z:u.dst=some d):d<nt:=by
 have:=(Z7 h (o:=u) (by simpa using Array.mem_of_getElem? J)).2;rw[z]at this
 simpa [fo] using this
theorem Y2{C:A8}{o:Oper}{H:N7}{v:Value}{r:Option N7}(U:isCall o.op=true)(h:aop P C o.op e H=some (v,r)):
  ∃(c:Call)(f:Operand)(g:FuncId)(first u:Array Value),o.op= .call c/\c.callee= .value f/\opv e f= .func (.func g) first u/\C g (first.toList++c.args.toList.map (opv e)++u.toList) H=some (v,r):=by
 obtain⟨X,op,ty,a1,z,O⟩:=o;simp only at h U;cases op<;>first|(cases U;done)|skip
 rename_i c;obtain⟨J,as,W⟩:=c;cases J<;>first|(cases U;done)|skip
 rename_i f;simp only[aop,fI]at h;split at h
 .rename_i g first u hf;exact⟨_,f,g,first,u,rfl,rfl,hf,h⟩
 .cases h
theorem jo(H:N7):Fr φ H.bs H.low w w:=fun _ _ _ _ _ _ _=>rfl
theorem gL(hE:ER φ nt e a){o:Oper}{c:Call}{f:Operand}{g:FuncId}{first O:Array Value}(U:o.op.operands.toList.all C5=true)(ho:o.op= .call c)(W:c.callee= .value f)
  (hf:opv e f= .func (.func g) first O):∃J u,a.eval f= .func (.func g) J u/\VRs φ (first.toList++c.args.toList.map (opv e)++O.toList) (J++c.args.map a.eval++u).toList:=by
 simp only[ho,Op.operands,Call.operands,W,Array.toList_append,List.all_append,Bool.and_eq_true,List.all_cons,List.all_nil,Bool.and_true]at U;have X:=hE.op U.1;rw[hf]at X;generalize hz:a.eval f=z at X;cases X with
 |func g h1 h2 h3 h4=>
  rename_i J u;refine⟨J,u,rfl,?_⟩;simp only[Array.toList_append,Array.toList_map];exact VRs.append (VRs.append ⟨h1,h2⟩ (hE.args U.2)) ⟨h3,h4⟩
theorem P0(a:Act)(d:Option Tmp)(v:Value):(a.put d v).defers=a.defers:=by unfold Act.put;split<;>rfl
def X8(P:Program)(C:A8):Prop:=∀base w0,bP P base w0 C
theorem fP(g:Nat->Value):∀(l:List Nat)(t:Nat),Env.get (l.map fun d=>(d,g d)) t=if t∈l then g t else undef
 |[],t=>by simp [Env.get]
 |d::l,t=>by
  simp only[List.map_cons,Env.get,fP g l t,List.mem_cons];by_cases h:d=t
  .subst h;simp
  .rw[if_neg h];have:t≠d:=fun q=>h q.symm;simp [this]
theorem Km{ops:Array Oper}{o:Oper}{Ei:Env}(a3:∀cs b,o.op≠ .select cs b) (a7:a.tmps.size=nt) (hv:∀d∈o.looksAt ops,VR φ (Ei.get d) (a.tmps.getD d undef)):
  ∃e1 u,ER φ nt e1 u/\(∀(C:A8) H,aop P C o.op e1 H=aop P C o.op Ei H)/\execOp u.eval o=execOp a.eval o/\E0 ops e1 o=E0 ops Ei o/\X4 ops e1 o=X4 ops Ei o/\Region.wanted o (yielded ops u.tmps)=Region.wanted o (yielded ops a.tmps):=by
 obtain⟨u,U⟩:∃u:Act,u=⟨Array.ofFn (n:=nt) fun t=>if t.1∈o.looksAt ops then a.tmps.getD t.1 undef else undef,a.defers⟩:=⟨_,rfl⟩
 have a6:u.tmps.size=nt:=by rw[U];simp
 have J:∀(t:Nat),t∈o.looksAt ops->u.tmps[t]?=a.tmps[t]?:=fun t z=>by
  by_cases a4:t<nt
  .rw[U,Array.getElem?_ofFn,dif_pos a4];simp only[if_pos z];have:t<a.tmps.size:=oM;simp [this]
  .rw[Array.getElem?_eq_none oM,Array.getElem?_eq_none oM]
 have a5:∀(t:Nat),t∉o.looksAt ops->u.tmps.getD t undef=undef:=fun t z=>by
  rw[Array.getD_eq_getD_getElem?,U,Array.getElem?_ofFn];split
  .simp [z]
  .rfl
 have O:∀(t:Nat),t∈o.looksAt ops->u.tmps.getD t undef=a.tmps.getD t undef:=fun t z=>by
  rw[Array.getD_eq_getD_getElem?,Array.getD_eq_getD_getElem?,J t z]
 have a2:∀x∈o.op.operands.toList,∀t,x= .tmp t->t∈o.looksAt ops:=fun x hx t W=>by
  subst W;exact List.mem_append_left _ (List.mem_filterMap.2 ⟨.tmp t,hx,rfl⟩)
 refine⟨(o.looksAt ops).map fun d=>(d,Ei.get d),u,⟨a6,fun t=>?_⟩,fun C H=>Ak o.op H fun x hx=>Ir fun t W=>?_,execOp_congr o a3 fun x hx=>?_,?_,?_,?_⟩
 .rw[fP];by_cases z:t∈o.looksAt ops
  .rw[if_pos z,O t z];exact hv t z
  .rw[if_neg z,a5 t z];exact VR.undef' φ
 .rw[fP,if_pos (a2 x hx t W)]
 .cases x with
  |tmp t=>exact O t (a2 _ (by simpa using hx) t rfl)
  |_=>rfl
 .unfold E0;cases hg:o.guard with
  |none=>rfl
  |some q=>
   obtain⟨j,b⟩:=q;simp only;cases X:(ops[j]?).bind (·.dst)with
   |none=>rfl
   |some d=>
    have:d∈o.looksAt ops:=by
     refine List.mem_append_right _ ?_;simp [hg,X]
    simp only[fP,if_pos this]
 .unfold X4;cases hg:o.guard with
  |none=>rfl
  |some q=>
   obtain⟨j,b⟩:=q;simp only;cases X:(ops[j]?).bind (·.dst)with
   |none=>rfl
   |some d=>
    have:d∈o.looksAt ops:=by
     refine List.mem_append_right _ ?_;simp [hg,X]
    simp only[fP,if_pos this]
 .unfold Region.wanted;cases hg:o.guard with
  |none=>rfl
  |some q=>
   obtain⟨j,b⟩:=q;simp only[yielded];cases X:(ops[j]?).bind (·.dst)with
   |none=>rfl
   |some d=>
    have:d∈o.looksAt ops:=by
     refine List.mem_append_right _ ?_;simp [hg,X]
    simp only[Option.bind_some,J d this]
def Bs.add(base:Bs)(Q:Nat->Prop):Bs:=⟨base.ro,fun k=>base.pr k\/Q k,fun k h=> .inl (base.sub k h)⟩
theorem BR.raise{B:Blk}{l:Loc}{Q:Nat->Prop}(h:BR base φ B l w)(u:B.mine=true->¬Q l.blk):BR (base.add Q) φ B l w:=by
 cases B with
 |dead=>trivial
 |cells c own sz=>
  obtain⟨J,O,U,W,X⟩:=h;refine⟨J,O,U,W,fun z=>?_⟩;obtain⟨k1,k2⟩:=X z;exact⟨fun q=>q.elim k1 (u (by simpa [Blk.mine] using z)),k2⟩
 |map es=>exact⟨fun q=>q.elim h.1 (u rfl),h.2⟩
 |iter s p=>exact⟨fun q=>q.elim h.1 (u rfl),h.2⟩
theorem BR.lower{B:Blk}{l:Loc}{Q:Nat->Prop}(h:BR (base.add Q) φ B l w):BR base φ B l w:=by
 cases B with
 |dead=>trivial
 |cells c own sz=>
  obtain⟨u,z,J,O,U⟩:=h;refine⟨u,z,J,O,fun W=>?_⟩;obtain⟨X,k2⟩:=U W;exact⟨fun q=>X (.inl q),k2⟩
 |map es=>exact⟨fun q=>h.1 (.inl q),h.2⟩
 |iter s p=>exact⟨fun q=>h.1 (.inl q),h.2⟩
theorem WR.raise(h:WR base w0 φ S w)(Q:Nat->Prop)(U:∀k,Q k->k<w.heap.size) (W:∀(b:Nat) B l,S[b]?=some B->B.mine=true->φ[b]?=some l->¬Q l.blk):WR (base.add Q) w φ S w:=
 ⟨h.len,Bel.refl _ _,fun k J=>J.elim (h.size k) (U k),fun b B l u z=>(h.blk b B l u z).raise fun O=>W b B l u O z,h.sep⟩
theorem WR.lower{U:List Loc}{J:List Blk}{O:World}{Q:Nat->Prop}(h:WR (base.add Q) w U J O)(u:Bel base.pr w0 w):WR base w0 U J O:=
 ⟨h.len,⟨h.below.os.trans u.os,h.below.tape.trans u.tape,h.below.output.trans u.output,Nat.le_trans u.size h.below.size,fun k z=>(h.below.block k (.inl z)).trans (u.block k z)⟩,
  fun k z=>h.size k (.inl z),fun b B l W X=>(h.blk b B l W X).lower,h.sep⟩
theorem WR.grow{U:World}(h:WR base w0 φ S w)(O:But w U none)(z:Bel base.pr w0 U):WR base w0 φ S U:=by
 refine⟨h.len,z,fun k X=>Nat.lt_of_lt_of_le (h.size k X) O.1,fun b B l W hl=>?_,h.sep⟩;have u:=h.blk b B l W hl;by_cases J:B.mine=true
 .exact u.mono (Ext.refl φ) (O.2 _ (u.lt J).2 sM)
 .cases B with
  |dead=>trivial
  |cells c own sz=>
   have:own=false:=by simpa [Blk.mine] using J
   subst this;exact u.mono (Ext.refl φ) (O.2 _ (h.size _ u.below) sM)
  |map es=>exact absurd rfl J
  |iter s p=>exact absurd rfl J
theorem WR.snoc{B:Blk}{l:Loc}(h:WR base w0 φ S w)(hB:BR base (φ++[l]) B l w)(hs:∀(b:Nat) u z,S[b]?=some u->u.mine=true->φ[b]?=some z->z.blk≠l.blk):WR base w0 (φ++[l]) (S++[B]) w:=by
 have key:∀(b:Nat) u z,(S++[B])[b]?=some u->(φ++[l])[b]?=some z->(S[b]?=some u/\φ[b]?=some z)\/(b=S.length/\u=B/\z=l):=by
  intro b u z J O;by_cases U:b<S.length
  .rw[List.getElem?_append_left U]at J;rw[List.getElem?_append_left (by rw[h.len];exact U)]at O;exact .inl ⟨J,O⟩
  .rw[List.getElem?_append_right oM]at J;rw[List.getElem?_append_right (by rw[h.len];omega),h.len]at O;have h0:b-S.length=0:=by
    have:=(gS J).1;simp at this;omega
   rw[h0]at J O;simp at J O;exact .inr ⟨oM,J.symm,O.symm⟩
 refine⟨by simp [h.len],h.below,h.size,fun b u z J O=>?_,fun b b' B1 B2 l1 l2 a1 p1 p2 m1 m2 q1 q2=>?_⟩
 .rcases key b u z J O with⟨W,X⟩|⟨_,rfl,rfl⟩
  .exact(h.blk b u z W X).mono (Ext.snoc φ l) rfl
  .exact hB
 .rcases key b B1 l1 p1 q1 with⟨W,X⟩|⟨h0,rfl,rfl⟩<;>rcases key b' B2 l2 p2 q2 with⟨h3,h4⟩|⟨h5,rfl,rfl⟩
  .exact h.sep b b' B1 B2 l1 l2 a1 W h3 m1 m2 X h4
  .exact hs b B1 l1 W m1 X
  .exact fun q=>hs b' B2 l2 h3 m2 h4 q.symm
  .omega
theorem LZ{c xs:LV}{ty:TypeId}{sz:Nat}(W:∀k,base.pr k->k<w.heap.size) (O:VRs φ c xs) (z:∀x∈c,x.oneCell'=true):
  BR base φ (.cells c true sz) ⟨w.heap.size,0,xs.length,sz⟩ (w.alloc (.cells xs.toArray ty)):=by
 have u:(w.alloc (.cells xs.toArray ty)).heap[w.heap.size]?=some (.cells xs.toArray ty):=heap_alloc_new w _;refine⟨rfl,z,fun i x J=>?_,(by intro U;cases U),fun _=>⟨dV W,by show c.length<=xs.length;rw[O.1];exact lR,_,ty,(0,0),u,by simp,fun i J=>?_⟩⟩
 .obtain⟨y,hy,X⟩:=O.get J;refine⟨y,?_,X⟩;unfold World.cell?;simp only[u,Option.isSome_none,bF,Nat.zero_add];simp [hy]
 .unfold World.frozen?;simp only[u];simp
theorem xh{C:A8}{o:Oper}{H:N7}{v:Value}{r:Option N7}(hW:WR base w0 φ S w)(hE:ER φ nt e a)(a1:o.op.operands.toList.all C5=true)(hf:az o.op=true)(h:aop P C o.op e H=some (v,r)):
  ∃(B:Blk)(mk:Nat->Value)(v':Value)(w1:World)(l:Loc),B.mine=true/\r=some (H.push B)/\v=mk H.next/\(execOp a.eval o).run P w= .ok (.value v') w1/\l.blk=w.heap.size/\But w w1 none/\Bel base.pr w0 w1/\BR base φ B l w1/\(∀(k:Nat)(o':Obj),w.heap[k]?=some o'->w1.heap[k]?=some o')/\∀(U:List Loc)(b:Nat),U[b]?=some l->VR U (mk b) v':=by
 have a2:∀{s:Sem Value}{c xs:LV}{ty:TypeId}{sz:Nat}{v':Value}(mk:Nat->Value),VRs φ c xs->(∀x∈c,x.oneCell'=true)->s.run P w= .ok v' (w.alloc (.cells xs.toArray ty))->execOp a.eval o=(do pure (.value (<-s)))->r=some (H.push (.cells c true sz))->v=mk H.next->
   (∀(U:List Loc)(b:Nat),U[b]?=some ⟨w.heap.size,0,xs.length,sz⟩->VR U (mk b) v')->
   ∃(B:Blk)(mk:Nat->Value)(v':Value)(w1:World)(l:Loc),B.mine=true/\r=some (H.push B)/\v=mk H.next/\(execOp a.eval o).run P w= .ok (.value v') w1/\l.blk=w.heap.size/\But w w1 none/\Bel base.pr w0 w1/\BR base φ B l w1/\(∀(k:Nat)(o':Obj),w.heap[k]?=some o'->w1.heap[k]?=some o')/\∀(U:List Loc)(b:Nat),U[b]?=some l->VR U (mk b) v':=by
  intro s c xs ty sz v' mk hx a4 a5 a9 hr hv b0;refine⟨.cells c true sz,mk,v',w.alloc (.cells xs.toArray ty),⟨w.heap.size,0,xs.length,sz⟩,rfl,hr,hv,by rw[a9];simp only[Sem.run_bind,a5,Result.andThen_ok,Sem.run_pure],rfl,⟨by simp,fun j hj _=>Below.heap_alloc _ _ _ hj⟩,hW.below.alloc hW.size _,LZ hW.size hx a4,fun k o' hk=>?_,b0⟩;rw[Below.heap_alloc _ _ _ (gA hk).1];exact hk
 obtain⟨b2,op,ty,b3,a7,a8⟩:=o;simp only at h hf a1;cases op<;>first|(cases hf;done)|skip
 case alloc t=>
  simp only[aop]at h;obtain⟨H',J,h2⟩:=C3 h;simp only[Option.map_eq_some_iff,Prod.mk.injEq]at J;obtain⟨z,hz,h3,h4⟩:=J;obtain⟨O,k1,k2,k3,k4⟩:=cL hz w;subst k2;refine a2 (s:=Instr.alloc t true (.tuple #[])) (c:=O.cells.toList) (xs:=O.cells.toList) (ty:=t) (sz:=1) (v':= .pointer (some ⟨w.heap.size,0,none⟩)) (fun b=> .pointer (some ⟨b,0,none⟩)) (VRs.na0 k3) (jA k3) ?_ rfl (by rw[h2,<-h4]) h3.symm (fun U b hb=>VR.ptr (o:=0) hb);simp only[Instr.alloc,Sem.run_bind,k1,Result.andThen_ok,newVar,newRow,newObj,Sem.run,Sem.run_pure,List.append_nil,Array.toArray_toList];rfl
 case buildSlice t u ps=>
  simp only[aop]at h;simp only[Op.operands]at a1;obtain⟨H',J,h2⟩:=C3 h;have hp:=hE.parts (xs:=ps) (by simpa using a1);unfold Q7 at J;split at J
  rotate_left
  .cases J
  rename_i e2 he;have hu:=Z0 he;split at J
  rotate_left
  .cases J
  rename_i z hz;split at J
  .cases J
  rename_i hb;split at J
  rotate_left
  .cases J
  rename_i cs a3;cases J;obtain⟨O,k1,k2,k3,k4⟩:=cL hz w;subst k2;have a6:O.cells.toList.length≠0:=fun h=>hb (.inl h);obtain⟨cs',e1,e3⟩:=eO a3 (φ:=φ) (cs':=(List.replicate u O.cells.toList).flatten) (VRs.na0 (by
   simp only[List.all_flatten,List.all_replicate];simp [k3])) hp
  refine a2 (s:=Instr.buildSlice t u ((ps.toList.map fun(i,x)=>(i,a.eval x)).toArray)) (c:=cs) (xs:=cs') (ty:=e2) (sz:=O.cells.toList.length) (v':= .slice (some ⟨w.heap.size,0,none⟩) u u) (fun b=> .slice (some ⟨b,0,none⟩) u u) e3 (un a3 (jA (by simp only[List.all_flatten,List.all_replicate];simp [k3])) (fun p hp=>by
    have:=(Bool.not_eq_false _).mp (fun h=>hb (.inr (.inr h)));exact fun x hx=>List.all_eq_true.1 (List.all_eq_true.1 this p hp) x hx)) ?_ ?_ h2 rfl (fun U b hb=>VR.exact (o:=0) hb)
  .have W:(Array.range (u*O.cells.toList.length)).map (fun i=>O.cells[i % O.cells.size]!)=(List.replicate u O.cells.toList).flatten.toArray:=by
    apply Array.toList_inj.1;rw[<-Mm O.cells.toList u a6];simp
   have c1:¬u*O.cells.toList.length>2 ^ 24:=oM;by_cases X:u*O.cells.toList.length=0
   .have:u=0:=by
     rcases Nat.mul_eq_zero.1 X with h|h
     .exact h
     .exact absurd h a6
    subst this;simp only[List.replicate_zero,List.flatten_nil]at e1;simp only[Instr.buildSlice,Sem.run_bind,run_underlying hu,Result.andThen_ok,C1 k4,if_neg c1,X,if_true,Sem.run_pure];simp only[Array.range_zero',Array.map_empty,e1,Sem.run_bind,newRow,newObj,Sem.run,Sem.run_pure,Result.andThen_ok];rfl
   .simp only[Instr.buildSlice,Sem.run_bind,run_underlying hu,Result.andThen_ok,C1 k4,if_neg c1,if_neg X,k1,Sem.run_pure,W,e1,newRow,newObj,Sem.run];rfl
  .have b1:(ps.map fun(i,x)=>(i,a.eval x))=((ps.toList.map fun(i,x)=>(i,a.eval x)).toArray):=by apply Array.toList_inj.1;simp
   simp only[execOp,b1]
theorem iI(e:Env)(d:Nat)(v:Value):I3 e (some d) v=(d,v)::e:=rfl
structure Rig(P:Program)(C:A8)(ops:Array Oper)(E:Nat->Env)(V:Nat->Value)(K:Nat->N7)(nt:Nat):Prop where
 mix:pi ops (E4 ops.toList [])
 tr:Tr P C ops (E4 ops.toList []) ops.size E V K
 okc:X8 P C
 okn:fw nt ops=true
structure St(ops:Array Oper)(base:Bs)(w0:World)(V:Nat->Value)(K:Nat->N7)(e0:Env)(φ0:List Loc)(H0:N7)(ws:World)(nt:Nat)(ds:List Deferred)(m:Nat)(φ:List Loc)(L:Nat->Loc)(D:Nat->Prop)(a:Act)(w:World):Prop where
 closed:∀(i:Nat) o,ops[i]?=some o->D i->∀d∈U2 o,D d
 mle:m<=nT ops ops.size
 low:∀(i:Nat) o,ops[i]?=some o->A9 o.op=true->nT ops i<m->D i
 high:∀(i:Nat) o,ops[i]?=some o->A9 o.op=true->m<=nT ops i->D i->az o.op=true
 ext:Ext φ0 φ
 le:Le H0 (K m)
 wr:WR base w0 φ (K m).bs w
 fr:Fr φ0 H0.bs (K m).low ws w
 tsz:a.tmps.size=nt
 dfr:a.defers=ds
 t0:∀(t:Nat),(∀(i:Nat) o,ops[i]?=some o->D i->o.dst≠some t)->VR φ (e0.get t) (a.tmps.getD t undef)
 t1:∀(i:Nat) o(d:Nat),ops[i]?=some o->D i->o.dst=some d->(A9 o.op=true->nT ops i<m)->VR φ (V i) (a.tmps.getD d undef)
 pend:∀(i:Nat) o(d:Nat),ops[i]?=some o->D i->A9 o.op=true->m<=nT ops i->o.dst=some d->∃(B:Blk)(mk:Nat->Value),B.mine=true/\K (nT ops i+1)=(K (nT ops i)).push B/\V i=mk (K (nT ops i)).next/\BR base φ B (L i) w/\(∀(φ2:List Loc)(b:Nat),φ2[b]?=some (L i)->VR φ2 (mk b) (a.tmps.getD d undef))/\∀(b:Nat) B' l',(K m).bs[b]?=some B'->B'.mine=true->φ[b]?=some l'->l'.blk≠(L i).blk
 sep:∀(i j:Nat) oi oj,ops[i]?=some oi->ops[j]?=some oj->D i->D j->A9 oi.op=true->A9 oj.op=true->m<=nT ops i->m<=nT ops j->i≠j->(L i).blk≠(L j).blk
section
variable{C:A8}{ops:Array Oper}{E:Nat->Env}{V:Nat->Value}{K:Nat->N7}{e0:Env}{φ0:List Loc}{H0:N7}{ws:World}{ds:List Deferred}{m:Nat}{L:Nat->Loc}{D:Nat->Prop}
theorem St.absorb(hM:pi ops (E4 ops.toList []))(h:St ops base w0 V K e0 φ0 H0 ws nt ds m φ L D a w){i:Nat}{o:Oper}(W:ops[i]?=some o)(ht:A9 o.op=true)(hn:nT ops i=m)(hD:D i):St ops base w0 V K e0 φ0 H0 ws nt ds (m+1) (φ++[L i]) L D a w:=by
 have hf:=h.high i o W ht oM hD;obtain⟨_,d,hd⟩:=hM.free i o W hf;obtain⟨B,mk,hm,hK,hV,hB,a7,hs⟩:=h.pend i o d W hD ht oM hd;rw[hn]at hK hV;have hx:=Ext.snoc φ (L i);have a1:=ij W ht (Q8 W);refine⟨h.closed,oM,fun j O z J a1=>?_,fun j O z J a6=>h.high j O z J oM,h.ext.trans hx,by rw[hK];exact h.le.trans (Le.push _ _),?_,by rw[hK];exact h.fr,h.tsz,h.dfr,fun t q=>(h.t0 t q).mono hx,fun j O dj z u U a1=>?_,fun j O dj z u J a6 U=>?_,fun j k O ok z hk u a4 J tk X h2=>h.sep j k O ok z hk u a4 J tk oM oM⟩
 .by_cases a3:nT ops j<m
  .exact h.low j O z J a3
  .have:j=i:=sB z W J ht oM;rw[this];exact hD
 .rw[hK];exact h.wr.snoc (hB.mono hx rfl) (fun b B' l' X h2 h3=>hs b B' l' X h2 h3)
 .by_cases a2:j=i
  .subst a2;have:O=o:=Option.some.inj (z.symm.trans W);subst this;have:dj=d:=Option.some.inj (U.symm.trans hd);subst this;rw[hV];exact a7 _ _ (Q2 h.wr)
  .refine(h.t1 j O dj z u U fun J=>?_).mono hx;have:=a1 J;by_cases a3:nT ops j=m
   .exact absurd (sB z W J ht oM) a2
   .omega
 .obtain⟨B2,a8,q1,q2,q3,q4,q5,q6⟩:=h.pend j O dj z u J oM U;refine⟨B2,a8,q1,q2,q3,q4.mono hx rfl,q5,fun b B' l' X h2 h3=>?_⟩;rw[hK]at X;simp only[N7.push]at X;by_cases hb:b<(K m).bs.length
  .rw[List.getElem?_append_left hb]at X;rw[List.getElem?_append_left (by rw[h.wr.len];exact hb)]at h3;exact q6 b B' l' X h2 h3
  .have a5:=(gS X).1;rw[List.length_append,List.length_cons,List.length_nil]at a5;have:b=(K m).bs.length:=oM;subst this;rw[Q2 h.wr]at h3;cases h3;exact h.sep i j o O W z hD u ht J oM oM (fun q=>by subst q;omega)
theorem St.norm(X:pi ops (E4 ops.toList [])):∀(g m:Nat)(φ:List Loc),g+m=nT ops ops.size->St ops base w0 V K e0 φ0 H0 ws nt ds m φ L D a w->∃W φ',St ops base w0 V K e0 φ0 H0 ws nt ds W φ' L D a w/\∀(i:Nat) o,ops[i]?=some o->A9 o.op=true->nT ops i=W->¬D i:=by
 intro g;induction g with
 |zero=>
  intro m φ hg h;refine⟨m,φ,h,fun i o u J O=>?_⟩;have:=ij u J (Q8 u);omega
 |succ g ih=>
  intro m φ hg h;by_cases z:∃(i:Nat)(o:Oper),ops[i]?=some o/\A9 o.op=true/\nT ops i=m/\D i
  .obtain⟨i,o,u,J,O,U⟩:=z;exact ih (m+1) _ oM (h.absorb X u J O U)
  .exact⟨m,φ,h,fun i o u J O U=>z ⟨i,o,u,J,O,U⟩⟩
theorem Jc(X:Rig P C ops E V K nt):∀(i k:Nat) ok(d:Nat),k<i->i<=ops.size->ops[k]?=some ok->ok.dst=some d->(E i).get d=V k:=by
 intro i;induction i with
 |zero=>intro k ok d hk;omega
 |succ i ih=>
  intro k ok d hk hi z O;have u:ops[i]?=some ops[i]:=Array.getElem?_eq_getElem oM;rw[X.tr.step i _ oM u];by_cases J:k=i
  .subst J;have:ok=ops[k]:=Option.some.inj (z.symm.trans u);rw[<-this,O,iI,Env.get,if_pos rfl]
  .have W:ops[i].dst≠some d:=fun q=>J (X.mix.dst k i _ _ d z u O q);have:=ih k ok d oM oM z O;cases U:ops[i].dst with
   |none=>exact this
   |some d2=>rw[iI,Env.get,if_neg (fun q=>W (by rw[U,q]))];exact this
theorem vT(U:Rig P C ops E V K nt):∀(i:Nat)(d:Nat),i<=ops.size->(∀(k:Nat) ok,k<i->ops[k]?=some ok->ok.dst≠some d)->(E i).get d=(E 0).get d:=by
 intro i;induction i with
 |zero=>intro d _ _;rfl
 |succ i W=>
  intro d hi u;have z:ops[i]?=some ops[i]:=Array.getElem?_eq_getElem oM;rw[U.tr.step i _ oM z];have:=W d oM fun k ok hk=>u k ok oM;have O:=u i _ oM z;cases J:ops[i].dst with
  |none=>exact this
  |some X=>rw[iI,Env.get,if_neg (fun q=>O (by rw[J,q]))];exact this
theorem St.reads(hR:Rig P C ops E V K nt)(h0:E 0=e0)(h:St ops base w0 V K e0 φ0 H0 ws nt ds m φ L D a w){i:Nat}{o:Oper}(ho:ops[i]?=some o)(a7:¬D i)(U:∀d∈U2 o,D d) (a5:A9 o.op=true->az o.op=false->nT ops i=m):
  ∀d∈o.looksAt ops,VR φ ((E i).get d) (a.tmps.getD d undef):=by
 intro d hd;have hM:=hR.mix;by_cases X:∃(k:Nat)(ok:Oper),ops[k]?=some ok/\ok.dst=some d
 .obtain⟨k,ok,z,u⟩:=X;rcases hM.look i k o ok d ho z u hd with⟨a3,J⟩|⟨b2,J⟩
  .have a1:D k:=hM.done h.closed i k o ho (Q8 z) U J;rw[Jc hR i k ok d a3 (Nat.le_of_lt (Q8 ho)) z u];refine h.t1 k ok d z a1 u fun tk=>?_;cases a2:az ok.op with
   |true=>
    rcases hM.flo i k o ok d ho z a2 u with⟨t1,f1⟩|a9
    .rw[<-a5 t1 f1];exact ij z tk a3
    .exact absurd hd a9
   |false=>
    apply Classical.byContradiction;intro b1;have:=h.high k ok z tk oM a1;rw[a2]at this;cases this
  .have a8:¬D k:=fun q=>a7 (hM.done h.closed k i ok z (Q8 ho) (h.closed k ok z q) J);rw[vT hR i d (Nat.le_of_lt (Q8 ho)) (fun k' b0 b3 a4 O=>by have:=hM.dst k k' ok b0 d z a4 u O;omega),h0];exact h.t0 d fun j oj hj a6 W=>a8 ((hM.dst k j ok oj d z hj u W)▸a6)
 .rw[vT hR i d (Nat.le_of_lt (Q8 ho)) (fun k ok _ z O=>X ⟨k,ok,z,O⟩),h0];exact h.t0 d fun j oj hj _ W=>X ⟨j,oj,hj,W⟩
theorem Y0(a:Act){d:Option Nat}(z:fo a.tmps.size d=true)(v:Value)(t:Nat):(a.put d v).tmps.getD t undef=if d=some t then v else a.tmps.getD t undef:=by
 cases d with
 |none=>rfl
 |some d=>
  simp only[fo,decide_eq_true_eq]at z;simp only[Act.put];by_cases u:d=t
  .subst u;rw[if_pos rfl];simp only[Array.getD_eq_getD_getElem?,Array.getElem?_setIfInBounds,if_true,z,Option.getD_some]
  .rw[if_neg (fun q=>u (Option.some.inj q))];simp only[Array.getD_eq_getD_getElem?,Array.getElem?_setIfInBounds,if_neg u]
theorem oD(a:Act)(d:Option Nat)(v:Value):(a.put d v).tmps.size=a.tmps.size:=by
 cases d with
 |none=>rfl
 |some d=>simp [Act.put]
theorem St.pure(hR:Rig P C ops E V K nt)(h:St ops base w0 V K e0 φ0 H0 ws nt ds m φ L D a w){i:Nat}{o:Oper}(ho:ops[i]?=some o)(a5:¬D i)(a2:∀d∈U2 o,D d) (ht:A9 o.op=false) {v':Value} (hv:VR φ (V i) v'):
  St ops base w0 V K e0 φ0 H0 ws nt ds m φ L (fun x=>D x\/x=i) (a.put o.dst v') w:=by
 have hM:=hR.mix;have O:fo a.tmps.size o.dst=true:=by rw[h.tsz];exact(Z7 hR.okn (by simpa using Array.mem_of_getElem? ho)).2
 have X:∀(j:Nat) z(d:Nat),ops[j]?=some z->D j->z.dst=some d->o.dst≠some d:=fun j z d J u W q=>a5 ((hM.dst j i z o d J ho W q)▸u);refine⟨fun j z J u d W=>?_,h.mle,fun j z J U a4=> .inl (h.low j z J U a4),fun j z J U a3 u=>?_,h.ext,h.le,h.wr,h.fr,by rw[oD];exact h.tsz,by rw[P0];exact h.dfr,fun t q=>?_,fun j z d J u W a4=>?_,fun j z d J u U a3 W=>?_,fun j k z ok J hk u a1 U tk h1 h2 X=>?_⟩
 .rcases u with u|rfl
  .exact .inl (h.closed j z J u d W)
  .have:z=o:=Option.some.inj (J.symm.trans ho);subst this;exact .inl (a2 d W)
 .rcases u with u|rfl
  .exact h.high j z J U a3 u
  .have:z=o:=Option.some.inj (J.symm.trans ho);subst this;rw[ht]at U;cases U
 .rw[Y0 a O,if_neg (q i o ho (.inr rfl))];exact h.t0 t fun j z J u=>q j z J (.inl u)
 .rcases u with u|rfl
  .rw[Y0 a O,if_neg (X j z d J u W)];exact h.t1 j z d J u W a4
  .have:z=o:=Option.some.inj (J.symm.trans ho);subst this;rw[Y0 a O,if_pos W];exact hv
 .rcases u with u|rfl
  .rw[Y0 a O,if_neg (X j z d J u W)];exact h.pend j z d J u U a3 W
  .have:z=o:=Option.some.inj (J.symm.trans ho);subst this;rw[ht]at U;cases U
 .rcases u with u|rfl
  .rcases a1 with a1|rfl
   .exact h.sep j k z ok J hk u a1 U tk h1 h2 X
   .have:ok=o:=Option.some.inj (hk.symm.trans ho);subst this;rw[ht]at tk;cases tk
  .have:z=o:=Option.some.inj (J.symm.trans ho);subst this;rw[ht]at U;cases U
def yU(ops:Array Oper)(m:Nat)(L:Nat->Loc)(D:Nat->Prop)(k:Nat):Prop:=∃(j:Nat)(oj:Oper),ops[j]?=some oj/\D j/\A9 oj.op=true/\m<=nT ops j/\(L j).blk=k
theorem St.aside(hM:pi ops (E4 ops.toList []))(h:St ops base w0 V K e0 φ0 H0 ws nt ds m φ L D a w):WR (base.add (yU ops m L D)) w φ (K m).bs w:=by
 have key:∀(j:Nat) J,ops[j]?=some J->D j->A9 J.op=true->m<=nT ops j->(L j).blk<w.heap.size/\∀(b:Nat) B' l',(K m).bs[b]?=some B'->B'.mine=true->φ[b]?=some l'->l'.blk≠(L j).blk:=by
  intro j J O u U z;obtain⟨_,d,hd⟩:=hM.free j J O (h.high j J O U z u);obtain⟨B,mk,q1,_,_,q4,_,q6⟩:=h.pend j J d O u U z hd;exact⟨(q4.lt q1).2,q6⟩
 refine h.wr.raise _ (fun k hk=>?_) (fun b B l X hm hl hq=>?_)
 .obtain⟨j,J,O,u,U,z,rfl⟩:=hk;exact(key j J O u U z).1
 .obtain⟨j,J,O,u,U,z,W⟩:=hq;exact(key j J O u U z).2 b B l X hm hl W.symm
theorem St.turn(h:St ops base w0 V K e0 φ0 H0 ws nt ds m φ L D a w)(hR:Rig P C ops E V K nt)(hφ:φ0.length=H0.bs.length){i:Nat}{o:Oper}(ho:ops[i]?=some o)(a5:¬D i)(a1:∀d∈U2 o,D d) (ht:A9 o.op=true) (hn:nT ops i=m) {v':Value} {φ':List Loc} {w':World}
  (hx:Ext φ φ') (U:Le (K m) (K (m+1))) (hv:VR φ' (V i) v') (hW:WR (base.add (yU ops m L D)) w φ' (K (m+1)).bs w') (a7:Fr φ (K m).bs (K (m+1)).low w w'):
  St ops base w0 V K e0 φ0 H0 ws nt ds (m+1) φ' L (fun x=>D x\/x=i) (a.put o.dst v') w':=by
 have hM:=hR.mix;have W:fo a.tmps.size o.dst=true:=by rw[h.tsz];exact(Z7 hR.okn (by simpa using Array.mem_of_getElem? ho)).2
 have a4:∀(j:Nat) z(d:Nat),ops[j]?=some z->D j->z.dst=some d->o.dst≠some d:=fun j z d J u hd q=>a5 ((hM.dst j i z o d J ho hd q)▸u);have a8:=ij ho ht (Q8 ho);have old:∀(j:Nat) z,ops[j]?=some z->(D j\/j=i)->A9 z.op=true->m+1<=nT ops j->D j:=fun j z J u O U=>by
  rcases u with u|rfl
  .exact u
  .omega
 refine⟨fun j z J u d hd=>?_,oM,fun j z J O a3=>?_,fun j z J O U u=>h.high j z J O oM (old j z J u O U),h.ext.trans hx,h.le.trans U,hW.lower h.wr.below,?_,by rw[oD];exact h.tsz,by rw[P0];exact h.dfr,fun t q=>?_,fun j z d J u hd a3=>?_,fun j z d J u O U hd=>?_,fun j k z ok J hk u a6 O tk h1 h2=>h.sep j k z ok J hk (old j z J u O h1) (old k ok hk a6 tk h2) O tk oM oM⟩
 .rcases u with u|rfl
  .exact .inl (h.closed j z J u d hd)
  .have:z=o:=Option.some.inj (J.symm.trans ho);subst this;exact .inl (a1 d hd)
 .by_cases a2:nT ops j<m
  .exact .inl (h.low j z J O a2)
  .exact .inr (sB J ho O ht oM)
 .exact Fr.trans h.ext h.le U hφ h.fr a7
 .rw[Y0 a W,if_neg (q i o ho (.inr rfl))];exact(h.t0 t fun j z J u=>q j z J (.inl u)).mono hx
 .rcases u with u|rfl
  .rw[Y0 a W,if_neg (a4 j z d J u hd)];refine(h.t1 j z d J u hd fun O=>?_).mono hx;have:=a3 O;by_cases a2:nT ops j=m
   .exact absurd ((sB J ho O ht oM)▸u) a5
   .omega
  .have:z=o:=Option.some.inj (J.symm.trans ho);subst this;rw[Y0 a W,if_pos hd];exact hv
 .have X:=old j z J u O U;rw[Y0 a W,if_neg (a4 j z d J X hd)];obtain⟨B,mk,q1,q2,q3,q4,q5,q6⟩:=h.pend j z d J X O oM hd;have hA:yU ops m L D (L j).blk:=⟨j,z,J,X,O,oM,rfl⟩
  refine⟨B,mk,q1,q2,q3,q4.mono hx (hW.below.block _ (.inr hA)),q5,fun b B' l' h1 h2 h3 hq=>?_⟩;exact((hW.blk b B' l' h1 h3).lt h2).1 (.inr (hq▸hA))
theorem St.early(hR:Rig P C ops E V K nt)(h:St ops base w0 V K e0 φ0 H0 ws nt ds m φ L D a w){i:Nat}{o:Oper}(ho:ops[i]?=some o)(b1:¬D i)(a5:∀d∈U2 o,D d) (ht:A9 o.op=true) (hf:az o.op=true) (hn:m<nT ops i) {B:Blk} {mk:Nat->Value} {v':Value} {w1:World} {l:Loc}
  (hm:B.mine=true) (hK:K (nT ops i+1)=(K (nT ops i)).push B) (hV:V i=mk (K (nT ops i)).next) (hl:l.blk=w.heap.size) (a3:But w w1 none) (a6:Bel base.pr w0 w1) (hB:BR base φ B l w1) (b2:∀(k:Nat)(o':Obj),w.heap[k]?=some o'->w1.heap[k]?=some o') (b6:∀(φ2:List Loc)(b:Nat),φ2[b]?=some l->VR φ2 (mk b) v'):
  St ops base w0 V K e0 φ0 H0 ws nt ds m φ (fun x=>if x=i then l else L x) (fun x=>D x\/x=i) (a.put o.dst v') w1:=by
 have hM:=hR.mix;have U:fo a.tmps.size o.dst=true:=by rw[h.tsz];exact(Z7 hR.okn (by simpa using Array.mem_of_getElem? ho)).2
 have b0:∀(j:Nat) z(d:Nat),ops[j]?=some z->D j->z.dst=some d->o.dst≠some d:=fun j z d J u W q=>b1 ((hM.dst j i z o d J ho W q)▸u);have a1:∀j,D j->j≠i:=fun j u q=>b1 (q▸u);have b3:∀(j:Nat) z,ops[j]?=some z->D j->A9 z.op=true->m<=nT ops j->(L j).blk<w.heap.size:=fun j z J u tj X=>by
  obtain⟨_,d,W⟩:=hM.free j z J (h.high j z J tj X u);obtain⟨B2,b4,q1,_,_,q4,_⟩:=h.pend j z d J u tj X W;exact(q4.lt q1).2
 refine⟨fun j z J u d W=>?_,h.mle,fun j z J tj a2=> .inl (h.low j z J tj a2),fun j z J tj X u=>?_,h.ext,h.le,h.wr.grow a3 a6,?_,by rw[oD];exact h.tsz,by rw[P0];exact h.dfr,fun t q=>?_,fun j z d J u W a2=>?_,fun j z d J u tj X W=>?_,fun j k z ok J hk u O tj tk h1 h2 a8=>?_⟩
 .rcases u with u|rfl
  .exact .inl (h.closed j z J u d W)
  .have:z=o:=Option.some.inj (J.symm.trans ho);subst this;exact .inl (a5 d W)
 .rcases u with u|rfl
  .exact h.high j z J tj X u
  .have:z=o:=Option.some.inj (J.symm.trans ho);subst this;exact hf
 .intro b B' l' hb a4 a7 a9;have h1:=h.fr b B' l' hb a4 a7 a9;have b5:Fr φ (K m).bs (K m).low w w1:=Fr.of_old h.wr b2;have hs:(K m).bs[b]?=some B':=by rw[h.le.same b hb (gS a4).1];exact a4
  rw[b5 b B' l' hb hs a7 (h.ext b l' a9),h1]
 .rw[Y0 a U,if_neg (q i o ho (.inr rfl))];exact h.t0 t fun j z J u=>q j z J (.inl u)
 .rcases u with u|rfl
  .rw[Y0 a U,if_neg (b0 j z d J u W)];exact h.t1 j z d J u W a2
  .have:z=o:=Option.some.inj (J.symm.trans ho);subst this;have:=a2 ht;omega
 .rcases u with u|rfl
  .rw[Y0 a U,if_neg (b0 j z d J u W)];obtain⟨B2,b4,q1,q2,q3,q4,q5,q6⟩:=h.pend j z d J u tj X W;simp only[if_neg (a1 j u)];exact⟨B2,b4,q1,q2,q3,q4.mono (Ext.refl φ) (a3.2 _ (q4.lt q1).2 sM),q5,q6⟩
  .have:z=o:=Option.some.inj (J.symm.trans ho);subst this;rw[Y0 a U,if_pos W];simp only[if_true];refine⟨B,mk,hm,hK,hV,hB,b6,fun b B' l' h1 h2 h3=>?_⟩;have:=((h.wr.blk b B' l' h1 h3).lt h2).2;omega
 .rcases u with u|rfl
  .rcases O with O|rfl
   .simp only[if_neg (a1 j u),if_neg (a1 k O)];exact h.sep j k z ok J hk u O tj tk h1 h2 a8
   .simp only[if_neg (a1 j u),if_true];have:=b3 j z J u tj h1;omega
  .rcases O with O|rfl
   .simp only[if_neg (a1 k O),if_true];have:=b3 k ok hk O tk h2;omega
   .exact absurd rfl a8
theorem St.step(hR:Rig P C ops E V K nt)(h0:E 0=e0)(b0:φ0.length=H0.bs.length)(h:St ops base w0 V K e0 φ0 H0 ws nt ds m φ L D a w)(a6:∀(i:Nat) o,ops[i]?=some o->A9 o.op=true->nT ops i=m->¬D i) {i:Nat} {o:Oper} (U:ops[i]?=some o) (O:¬D i) (z:∀d∈U2 o,D d) {Q:Exit->Act->World->Prop}:
  wpOp P ops Q i (fun a' w'=>∃m' φ' L',St ops base w0 V K e0 φ0 H0 ws nt ds m' φ' L' (fun x=>D x\/x=i) a' w') a w:=by
 have hM:=hR.mix;have hi:=Q8 U;have d6:=fun cs b=>Region.noSelect_spec hM.sel i o cs b U;have d2:A9 o.op=true->m<=nT ops i:=fun W=>by
  apply Classical.byContradiction;intro b1;exact O (h.low i o U W oM)
 have a8:A9 o.op=true->az o.op=false->nT ops i=m:=fun W hf=>by
  apply Classical.byContradiction;intro f5;have:=d2 W;obtain⟨k,ok,e6,hk,tk,f2⟩:=JA (ops:=ops) i m oM;exact a6 k ok hk tk f2 (hM.done h.closed i k o U (Q8 hk) z (hM.ord i k o ok U hk e6 W hf tk))
 obtain⟨e1,a1,hE,b2,a5,f3,e7,f4⟩:=Km (P:=P) (ops:=ops) (o:=o) (Ei:=E i) d6 h.tsz (h.reads hR h0 U O z a8);have a7:=(Z7 hR.okn (by simpa using Array.mem_of_getElem? U)).1;have c6:Region.wanted o (yielded ops a.tmps)=E0 ops (E i) o:=by rw[<-f4,<-f3,hE.wanted ops o (V6 hR.okn) (by rw[e7];exact hR.tr.nl i o hi U)]
 unfold wpOp;simp only[U];rw[c6];cases hw:E0 ops (E i) o with
 |true=>
  rw[if_pos rfl]
  left
  cases W:A9 o.op with
  |false=>
   have hc:isCall o.op=false:=by
    cases hc:isCall o.op with
    |false=>rfl
    |true=>
     unfold isCall at hc;split at hc
     .rename_i e4;rw[e4]at W;cases W
     .cases hc
   have X:aop P noC o.op (E i) (K m)=some (V i,none):=by
    cases d5:rdK o.op with
    |false=>exact hR.tr.flat i o hi U hw W d5 _
    |true=>
     refine hR.tr.pure i o hi U hw W d5 m h.mle ?_ ?_
     .apply Classical.byContradiction;intro b1;obtain⟨c,oc,a4,b8,b9,c0⟩:=Gc (ops:=ops) (A:=E4 ops.toList []) (i:=i) (j:=m) oM;exact a6 c oc a4 b8 b9 (hM.done h.closed i c o U (Q8 a4) z c0)
     .apply Classical.byContradiction;intro b1;obtain⟨c,oc,a4,b8,b9,c0⟩:=MJ (ops:=ops) (A:=E4 ops.toList []) (i:=i) (j:=m) oM h.mle;have d9:=h.low c oc a4 b8 b9;exact O (hM.done h.closed c i oc a4 hi (h.closed c oc a4 d9) c0)
   rw[<-b2]at X;obtain⟨v',hv,J⟩:=gT h.wr hE a7 hc X;unfold Oper.wp;rw[<-a5,J w h.wr.cls,Oper.upon_value];exact⟨m,φ,L,h.pure hR U O z W hv⟩
  |true=>
   obtain⟨r,X,a3⟩:=hR.tr.turn i o hi U hw W;rw[<-b2]at X;by_cases hn:nT ops i=m
   .rw[hn]at X a3;have hA:=h.aside hM;cases hc:isCall o.op with
    |false=>
     cases r with
     |none=>
      have u:K (m+1)=K m:=a3;obtain⟨v',hv,J⟩:=gT hA hE a7 hc X;unfold Oper.wp;rw[<-a5,J w hA.cls,Oper.upon_value];exact⟨m+1,φ,L,h.turn hR b0 U O z W hn (Ext.refl φ) (by rw[u];exact Le.refl _) hv (by rw[u];exact hA) (by rw[u];exact jo _)⟩
     |some H2=>
      have u:K (m+1)=H2:=a3;obtain⟨v',w',φ',J,hx,hv,b6,c4⟩:=sD hA hE a7 hc X;have c8:=h.turn hR b0 U O z W hn hx (by rw[u];exact kU hc X) hv (by rw[u];exact b6) (by rw[u];exact c4);unfold Oper.wp;rw[<-a5];rcases J with J|⟨J,rfl⟩
      .rw[J,Oper.upon_value];exact⟨m+1,φ',L,c8⟩
      .rw[J,Oper.upon_skip];exact⟨m+1,φ',L,c8⟩
    |true=>
     obtain⟨c,f,g,first,c7,d3,b3,hf,c3⟩:=Y2 hc X;obtain⟨d8,b5,e5,b7⟩:=gL hE a7 d3 b3 hf;obtain⟨e3,e8,f1,c5⟩:=hR.okc (base.add (yU ops m L D)) w _ _ _ _ _ c3;have d1:=c5 φ w _ b7 hA;unfold Oper.wp;rw[<-a5,ci b3 (ty:=o.type) e5 e3 d3,Oper.upon_enter];simp only[Array.toArray_toList]at d1;refine d1.mono fun en w' a9=>?_;cases r with
     |none=>
      have u:K (m+1)=K m:=a3;obtain⟨rfl,b4⟩:=a9;exact⟨m+1,φ,L,h.turn hR b0 U O z W hn (Ext.refl φ) (by rw[u];exact Le.refl _) (VR.na (f1 rfl)) (by rw[u];exact b4.wr) (by rw[u];exact fun b B l _ hB hd hl=>b4.same b B l hB hd hl)⟩
     |some H2=>
      have u:K (m+1)=H2:=a3;obtain⟨v',φ',rfl,hx,hv,b6,c4⟩:=a9;exact⟨m+1,φ',L,h.turn hR b0 U O z W hn hx (by rw[u];exact e8 H2 rfl) hv (by rw[u];exact b6) (by rw[u];exact c4)⟩
   .have b1:m<nT ops i:=oN (d2 W);have hf:az o.op=true:=by
     cases hf:az o.op with
     |true=>rfl
     |false=>exact absurd (a8 W hf) hn
    obtain⟨B,mk,v',w1,l,e9,hr,hv,J,hl,d0,c9,hB,d4,f0⟩:=xh h.wr hE a7 hf X;subst hr;unfold Oper.wp;rw[<-a5,J,Oper.upon_value];exact⟨m,φ,_,h.early hR U O z W hf b1 e9 a3 hv hl d0 c9 hB d4 f0⟩
 |false=>
  rw[if_neg Bool.false_ne_true];obtain⟨hV,e2⟩:=hR.tr.off i o hi U hw;have hv:VR φ (V i) undef:=by rw[hV];exact VR.undef' φ
  cases W:A9 o.op with
  |false=>exact⟨m,φ,L,h.pure hR U O z W hv⟩
  |true=>
   have hf:az o.op=false:=by
    cases hf:az o.op with
    |false=>rfl
    |true=>
     have:=(hM.free i o U hf).1;unfold E0 at hw;rw[this]at hw;cases hw
   have hn:=a8 W hf;have a2:=e2 W;rw[hn]at a2;exact⟨m+1,φ,L,h.turn hR b0 U O z W hn (Ext.refl φ) (by rw[a2];exact Le.refl _) hv (by rw[a2];exact h.aside hM) (by rw[a2];exact jo _)⟩
theorem St.done(X:Rig P C ops E V K nt)(h0:E 0=e0)(h:St ops base w0 V K e0 φ0 H0 ws nt ds m φ L D a w)(O:∀(i:Nat) o,ops[i]?=some o->A9 o.op=true->nT ops i=m->¬D i) (z:∀i,i<ops.size->D i):
  Ext φ0 φ/\ER φ nt (E ops.size) a/\WR base w0 φ (K (nT ops ops.size)).bs w/\Fr φ0 H0.bs (K (nT ops ops.size)).low ws w/\a.defers=ds:=by
 have W:m=nT ops ops.size:=by
  apply Classical.byContradiction;intro a1;obtain⟨i,o,hi,ho,ht,hn⟩:=JA (ops:=ops) ops.size m (oN (h.mle));exact O i o ho ht hn (z i hi)
 subst W;refine⟨h.ext,⟨h.tsz,fun t=>?_⟩,h.wr,h.fr,h.dfr⟩;by_cases J:∃(k:Nat)(ok:Oper),ops[k]?=some ok/\ok.dst=some t
 .obtain⟨k,ok,u,U⟩:=J;rw[Jc X ops.size k ok t (Q8 u) lR u U];exact h.t1 k ok t u (z k (Q8 u)) U fun tk=>ij u tk (Q8 u)
 .rw[vT X ops.size t lR (fun k ok _ u U=>J ⟨k,ok,u,U⟩),h0];exact h.t0 t fun k ok u _ U=>J ⟨k,ok,u,U⟩
theorem kJ{α:Type}{p q:α->Bool}:∀{l:List α},(∀x∈l,p x=true->q x=true)->(∃x∈l,q x=true/\p x=false)->l.countP p<l.countP q
 |[],_,h=>by obtain⟨x,W,_⟩:=h;simp at W
 |a::l,h,u=>by
  have O:∀l:List α,(∀x∈l,p x=true->q x=true)->l.countP p<=l.countP q:=fun l h=>List.countP_mono_left fun x u J=>h x u J;rw[List.countP_cons,List.countP_cons];have W:=O l fun x u=>h x (List.mem_cons_of_mem _ u);obtain⟨x,z,X,J⟩:=u;rcases List.mem_cons.1 z with rfl|z
  .rw[X,J];simp;omega
  .have h2:=kJ (l:=l) (fun x u=>h x (List.mem_cons_of_mem _ u)) ⟨x,z,X,J⟩;have h3:(if p a=true then 1 else 0)<=(if q a=true then 1 else 0):=by
    cases U:p a with
    |false=>simp
    |true=>rw[h a sM U];simp
   omega
def nM(ops:Array Oper)(listed:Array Bool):Nat:=(List.range ops.size).countP fun i=> !listed.getD i false
theorem JR(hR:Rig P C ops E V K nt)(h0:E 0=e0)(b1:φ0.length=H0.bs.length){Q:Exit->Act->World->Prop}
  (hQ:∀φ a w,Ext φ0 φ->ER φ nt (E ops.size) a->WR base w0 φ (K (nT ops ops.size)).bs w->Fr φ0 H0.bs (K (nT ops ops.size)).low ws w->a.defers=ds->Q .normal a w):
  ∀(J:Nat)(u:Array Bool)(a:Act)(w:World),u.size=ops.size->nM ops u<=J->(∃m φ L,St ops base w0 V K e0 φ0 H0 ws nt ds m φ L (fun i=>u.getD i false=true) a w)->wpAny P .any ops Q J u a w:=by
 have hM:=hR.mix;have b2:∀(u:Array Bool)(i:Nat)(o:Oper),u.size=ops.size->ops[i]?=some o->u.getD i false=false->(∀d∈U2 o,u.getD d false=true)->i∈Region.ready .any ops u:=by
  intro u i o X O hf hd;refine mem_ready.2 ⟨?_,o,O,fun e he hb=>hd e.on ?_⟩
  .have:i<u.size:=by rw[X];exact Q8 O
   simp only[Array.getD_eq_getD_getElem?,Array.getElem?_eq_getElem this,Option.getD_some]at hf ⊢;exact hf
  .unfold U2;exact List.mem_map.2 ⟨e,List.mem_filter.2 ⟨by simpa using he,hb⟩,rfl⟩
 have b3:∀(u:Array Bool),u.size=ops.size->Region.ready .any ops u=[]->∀i,i<ops.size->u.getD i false=true:=by
  intro u X hr i;induction i using Nat.strongRecOn with
  |ind i ih=>
   intro hi;apply Classical.byContradiction;intro hn;have O:ops[i]?=some ops[i]:=Array.getElem?_eq_getElem hi;have:=b2 u i _ X O (by simpa using hn) fun d hd=>by
    have a6:=hM.back i _ O d hd;exact ih d a6 oM
   rw[hr]at this;cases this
 intro J;induction J with
 |zero=>
  intro u a w X a9 ⟨m,φ,L,h⟩;obtain⟨m',φ',h',z⟩:=h.norm hM (nT ops ops.size-m) m φ (oN (h.mle));have a1:∀i,i<ops.size->u.getD i false=true:=by
   intro i hi;have W:nM ops u=0:=oM;unfold nM at W;rw[List.countP_eq_zero]at W
   simpa using W i (List.mem_range.2 hi)
  obtain⟨q1,q2,q3,q4,q5⟩:=h'.done hR h0 z a1;refine⟨?_,hQ φ' a w q1 q2 q3 q4 q5⟩;apply List.eq_nil_iff_forall_not_mem.2;intro i hi;obtain⟨W,o,O,_⟩:=mem_ready.1 hi;have:=a1 i (Q8 O);have U:i<u.size:=by rw[X];exact Q8 O
  simp only[Array.getD_eq_getD_getElem?,Array.getElem?_eq_getElem U,Option.getD_some]at W this;rw[W]at this;cases this
 |succ J ih=>
  intro u a w X a9 ⟨m,φ,L,h⟩;obtain⟨m',φ',h',z⟩:=h.norm hM (nT ops ops.size-m) m φ (oN (h.mle));refine⟨fun hr=>?_,fun i hi=>?_⟩
  .obtain⟨q1,q2,q3,q4,q5⟩:=h'.done hR h0 z (b3 u X hr);exact hQ φ' a w q1 q2 q3 q4 q5
  .obtain⟨W,o,O,hd⟩:=mem_ready.1 hi;have U:i<u.size:=by rw[X];exact Q8 O
   have a4:u.getD i false=false:=by
    simp only[Array.getD_eq_getD_getElem?,Array.getElem?_eq_getElem U,Option.getD_some]at W ⊢;exact W
   have a3:∀d∈U2 o,u.getD d false=true:=fun d a5=>by
    unfold U2 at a5;obtain⟨e,he,rfl⟩:=List.mem_map.1 a5;obtain⟨a7,a8⟩:=List.mem_filter.1 he;exact hd e (by simpa using a7) a8
   have a2:∀x,(u.setIfInBounds i true).getD x false=true↔(u.getD x false=true\/x=i):=fun x=>by
    by_cases hx:x=i
    .subst hx;simp [U]
    .rw[getD_set_ne false (fun q=>hx q.symm)];simp [hx]
   refine wpOp_mono (fun a' w' b0=>ih _ a' w' (by simp [X]) ?_ ?_) (h'.step hR h0 b1 z O (by rw[a4];exact Bool.false_ne_true) a3)
   .have:nM ops (u.setIfInBounds i true)<nM ops u:=by
     unfold nM;refine kJ (fun x _ hx=>?_) ⟨i,List.mem_range.2 (Q8 O),by simp [a4],by simp [U]⟩;simp only[Bool.not_eq_true']at hx ⊢;cases hq:u.getD x false with
     |false=>rfl
     |true=>rw[(a2 x).2 (.inl hq)]at hx;cases hx
    omega
   .obtain⟨m2,φ2,L2,h2⟩:=b0;have:(fun x=>u.getD x false=true\/x=i)=fun x=>(u.setIfInBounds i true).getD x false=true:=by
     funext x;exact propext (a2 x).symm
    rw[this]at h2;exact⟨m2,φ2,L2,h2⟩
end
theorem zE{C:A8}(hC:X8 P C){ops:Array Oper}(W:fw nt ops=true)(a4:kX ops (E4 ops.toList [])=true){Q:Exit->Act->World->Prop}{e e':Env}{H H':N7}
  (h:I7 P C ops 0 [] [] (jw ops) e H=some (e',H')) (hE:ER φ nt e a) (hW:WR base w0 φ H.bs w) (hp:hU base w0 φ H w nt a.defers e' H' (Q .normal)):wpAny P .any ops Q ops.size (Array.replicate ops.size false) a {w with drawn:=w.drawn+1}:=by
 have hM:=Rm a4;have O:Cls base w0 φ H.bs w {w with drawn:=w.drawn+1}:=⟨hW.same_heap rfl rfl rfl rfl,fun _ _ _ _ _ _=>rfl⟩
 obtain⟨E,V,K,hT,X,a2,a1,a3⟩:=BI hM ops.size 0 0 [] [] (fun _=>e) (fun _=>undef) (fun _=>H) oM rfl
  ⟨fun i o U=>oM,fun i o U=>oM,fun i o U=>oM,fun i o U=>oM,fun i o U=>oM,fun i o U=>oM⟩ (fun j hj=>by rw[zF]at hj;omega) (fun x o hx=>oM) (by simpa using h)
 have hR:Rig P C ops E V K nt:=⟨hM,hT,hC,W⟩
 refine JR (base:=base) (w0:=w0) (φ0:=φ) (H0:=H) (ws:=w) (ds:=a.defers) (e0:=e) hR X hW.len.symm.symm (fun φ' a' w' h1 h2 h3 h4 h5=>?_) ops.size _ a _ sM ?_ ⟨0,φ,fun _=>⟨0,0,0,0⟩,?_⟩
 .rw[a1]at h2;rw[a3]at h3 h4;exact hp φ' a' w' h1 h2 h3 h4 h5
 .unfold nM;refine Nat.le_trans List.countP_le_length sM
 .have z:∀i,¬((Array.replicate ops.size false).getD i false=true):=fun i=>by
   simp only[Array.getD_eq_getD_getElem?,Array.getElem?_replicate];split<;>simp
  have u:K 0=H:=a2;refine⟨fun i o _ J=>absurd J (z i),Nat.zero_le _,fun i o _ _ a5=>oM,fun i o _ _ _ J=>absurd J (z i),Ext.refl φ,by rw[u];exact Le.refl _,by rw[u];exact O.wr,by rw[u];exact fun b B l _ hB hd hl=>O.same b B l hB hd hl,hE.size,rfl,fun t _=>hE.val t,fun i o d _ J=>absurd J (z i),fun i o d _ J=>absurd J (z i),fun i j oi oj _ _ J=>absurd J (z i)⟩
theorem BH{C:A8}(W:P.follows .mixedOrders=true)(J:X8 P C){ops:Array Oper}(u:fw nt ops=true)(z:kX ops (E4 ops.toList [])=true){Q:Exit->Act->World->Prop}{e e':Env}{H H':N7}(id:Nat)
  (h:I7 P C ops 0 [] [] (jw ops) e H=some (e',H')) (O:ER φ nt e a) (U:WR base w0 φ H.bs w) (X:hU base w0 φ H w nt a.defers e' H' (Q .normal)):(Code.region id ops true).wp P Q a w:=
 wp_region_any W (zE J u z h O U X)
end
end Go.Proofs.YtofbhlhamfkljaaGreatDoor.Ve
