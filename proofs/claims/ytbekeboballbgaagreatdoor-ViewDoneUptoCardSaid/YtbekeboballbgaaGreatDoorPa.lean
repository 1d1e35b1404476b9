/- A part of the claim: the evaluator and the contracts. Conditions: none here. -/
import Derived.KernelRfl
import Derived.WalkKit
import Derived.Below
import Derived.Deep.Quiet
import Derived.StillTail
import Derived.Laws.StructEq
import Derived.Laws.Tables
import Derived.Scope
import Derived.LoopN
set_option linter.unusedVariables false
set_option linter.unusedSimpArgs false
set_option linter.defProp false
set_option maxHeartbeats 0
set_option autoImplicit true
set_option relaxedAutoImplicit true
set_option maxRecDepth 1000000
namespace Go.Proofs.YtbekeboballbgaaGreatDoor
open Go Go.RowKit
abbrev Waa{t:Type}(z:Bool)(a b:t):t:=cond z a b
abbrev Wab{t:Type}(z y:Bool)(a b c d:t):t:=cond z (cond y a b) (cond y c d)
abbrev Wac{t:Type}(z y x:Bool)(a b c d e f g h:t):t:=cond z (cond y (cond x a b) (cond x c d)) (cond y (cond x e f) (cond x g h))
theorem Wad{p q:Prop}(h:p)(e:p=q:=by conv=>{lhs;simp only[Waa,Wab,Wac,cond_true,cond_false]}):q:=e▸h
def bt:=@if_neg
def cA:=@if_pos
def gk:=@Bool.and_eq_true
def ib:=@List.length_append
def kB:=@Result.andThen_ok
def ma:=@List.getD_eq_getElem?_getD
def ns:=@List.mem_append
def sW:=@Array.getD_eq_getD_getElem?
def xd:=@List.getElem?_append_left
def xo:=@decide_eq_true_eq
def yo:=@decide_eq_true
def yv:=@List.getElem?_eq_getElem
def A1:=@List.length_cons
def A2:=@List.take_of_length_le
def ZZ:=@Option.map_eq_some_iff
def aaa:=@Option.some.injEq
def aab:=@if_true
def aac:=@Sem.run_bind
def aae:=@run_underlying
def aaf:=@Nat.add_zero
def aag:=@List.length_eq_zero_iff
def aah:=@Prod.mk.injEq
def aai:=@Sem.run_pure
def aaj:=@Array.getElem?_eq_getElem
def aak:=@List.foldl_cons
def aal:=@Option.some.inj
def aam:=@List.mem_cons
def aao:=@List.getElem?_append_right
def aap:=@List.getElem?_cons_succ
def aaq:=@List.append_nil
def aar:=@List.getElem?_cons_zero
def aas:=@Option.bind_some
def aau:=@List.mem_map
def aav:=@List.drop_eq_getElem_cons
def aaw:=@Array.getElem?_setIfInBounds
def aax:=@List.cons_append
def aay:=@Int.toNat_natCast
def aaz:=@List.mem_range
def aaA:=@List.getElem?_drop
def aaB:=@List.all_eq_true
def aaC:=@Array.toList_inj
def aaE:=@List.all_cons
def aaF:=@Nat.lt_of_lt_of_le
def aaG:=@List.length_nil
def aaH:=@Nat.zero_add
def aaJ:=@Nat.zero_le
def aaK:=@Nat.mul_one
def aaL:=@Bool.true_and
def aaM:=@List.getElem?_eq_none
def aaN:=@Classical.byContradiction
def aaO:=@List.getElem?_take
def aaP:=@Nat.add_mul
def aaQ:=@List.map_cons
def aaS:=@List.getElem?_map
def aaU:=@Option.map_some
def aaW:=@Nat.mul_le_mul_right
def aa0:=@Array.toArray_toList
def aa2:=@List.length_eq_one_iff
def aa4:=@Bool.or_eq_true
def aa5:=@Nat.add_assoc
def aa6:=@Option.getD_some
def aa7:=@List.length_map
def aa8:=@Nat.zero_mul
def aa9:=@Bool.and_true
def abb:=@List.getElem?_set
def abc:=@List.length_drop
def abd:=@Bool.not_true
def abe:=@List.mem_cons_of_mem
def abf:=@List.not_mem_nil
def abg:=@List.map_append
def abh:=@eqGuard_at_int
def abj:=@Array.getElem?_toList
def abm:=@List.drop_drop
def abn:=@List.ext_getElem?
def abo:=@Bool.not_eq_true'
def abq:=@Array.getElem?_replicate
def abr:=@Array.toList_append
def abv:=@List.getElem?_eq_some_iff
def abw:=@Nat.le_trans
def aby:=@Bool.not_false
def abz:=@List.mem_filter
def abA:=@Bool.false_or
def abB:=@Nat.min_le_right
def abC:=@List.length_take
def abE:=@Int.toNat_of_nonneg
def abJ:=@List.take_add_one
def abK:=@Nat.le_of_lt
def abM:=@Bool.false_eq_true
def abN:=@List.all_append
def abP:=@Below.heap_alloc
def abQ:=@List.all_nil
def abU:=@not_true_eq_false
def abV:=@Option.isSome_iff_exists
def abX:=@List.all_replicate
def abY:=@decide_eq_false_iff_not
def ab0:=@dif_pos
def ab1:=@List.mapM_cons
def ab3:=@Array.length_toList
def ab5:=@List.getElem?_toArray
def ab6:=@List.all_flatten
def ab9:=@Oper.upon_value
def acb:=@if_false
def acd:=@List.map_congr_left
def ace:=@Nat.sub_self
def acg:=@Option.isSome_none
def acj:=@List.mem_or_eq_of_mem_set
def ack:=@Nat.min_le_left
def acl:=@Nat.le_refl
def acm:=@eqGuard_at_string
def acn:=@List.mem_of_mem_drop
def aco:=@or_false
def acp:=@List.mem_append_left
def acu:=@Nat.mul_le_mul_left
def acv:=@Array.eq_empty_of_size_eq_zero
def acw:=@Nat.mod_eq_of_lt
def acx:=@Array.toList_map
def acz:=@Bool.false_ne_true
def acA:=@List.range_succ
def acI:=@List.flatten_cons
def acJ:=@List.length_range
def acK:=@beq_iff_eq
def acL:=@List.take_take
def acM:=@List.mem_of_mem_take
def acQ:=@List.map_map
def acW:=@ByteArray.toList_eq
def acX:=@List.replicate_zero
def ac0:=@beq_toListBytes
def ac2:=@List.zip_cons_cons
def ac3:=@List.filter_append
def ac4:=@Bool.true_eq_false
def ac5:=@List.mem_cons_self
def ada:=@Option.bind_eq_some_iff
def adb:=@heap_alloc_new
def adc:=@Array.getElem?_eq_none
def adg:=@Array.getElem?_modify
def adh:=@Option.toList_toArray
def adi:=@List.mem_append_right
def adl:=@List.flatten_nil
def adm:=@List.filter_cons
def adn:=@List.nodup_range
def adq:=@List.getElem?_of_mem
def adt:=@Nat.min_eq_left
def adu:=@Option.bind_eq_bind
def adv:=@List.getElem?_range
def adw:=@List.countP_eq_zero
def adx:=@Array.getElem?_eq_some_iff
def ady:=@Array.toList_setIfInBounds
def adz:=@Array.ext_getElem?
def adA:=@List.mem_filterMap
def adJ:=@not_false_eq_true
def adK:=@List.size_toArray
def adL:=@run_askRoom
def adM:=@Bool.not_eq_false
def adN:=@Array.range_zero'
def adO:=@Nat.lt_trichotomy
def adT:=@and_self
def adU:=@List.getElem_map
def adV:=@and_true
def adY:=@Nat.sub_zero
def adZ:=@Nat.succ_mul
def ad7:=@Option.pure_def
def ad8:=@Nat.mul_eq_zero
def ad9:=@Array.map_empty
def aea:=@List.filter_nil
def aeb:=@Oper.upon_enter
def aed:=@Bool.and_eq_false_iff
def aee:=@List.countP_le_length
def aei:=@true_and
def aej:=@Oper.upon_skip
def aem:=@wp_region_any
def aep:=@run_choose
def aeq:=@decide_false
end Go.Proofs.YtbekeboballbgaaGreatDoor
namespace Go.Proofs.YtbekeboballbgaaGreatDoor
open Go
abbrev aes:=ByteArray
abbrev aet:=Value
end Go.Proofs.YtbekeboballbgaaGreatDoor
namespace Go.Proofs.YtbekeboballbgaaGreatDoor.Ve
open Go
universe uA
def rT{A:Sort uA}{a:A}:a=a:=Eq.trans rfl rfl
def aI{a b:Prop}(h:a)(k:b):a/\b:=⟨h,k⟩
abbrev LV:=List aet
abbrev eB:aes:=ByteArray.empty
abbrev nS:aet:= .slice none 0 0
abbrev iV(n:Int):aet:= .int .i64 n
abbrev pT(b:Nat):aet:= .pointer (some ⟨b,0,none⟩)
def oM{p:Prop}(h:p:=by omega):p:=h
def kR{p:Prop}(h:p:=by kernel_rfl):p:=h
def lR{n:Nat}:n<=n:=acl n
def iF{A B:Type}{p:A->B->Prop}:∀a b,p a b->p a b:=fun _ _ h=>h
def dT{p:Prop}[Decidable p](h:decide p=true):p:=of_decide_eq_true h
def dF{p:Prop}[Decidable p](h:decide p=false):¬p:=of_decide_eq_false h
def dN{A:Type}{l:List A}(h:l.length<=i):l.drop i=[]:=List.drop_eq_nil_of_le h
def tN(i:Nat):(i:Int).toNat=i:=aay i
def eX{A:Sort uA}{a:A}:∃x,x=a:=⟨_,rfl⟩
def eY{A:Sort uA}(a:A):∃x,x=a:=⟨_,rfl⟩
def bF:((false=true)=False)/\∀{A:Type}{_:Decidable False}(a b:A),ite False a b=b:=⟨abM,acb⟩
def sM{p:Prop}(h:p:=by simp):p:=h
abbrev sP(b:Nat):Option Addr:=some ⟨b,0,none⟩
abbrev oC:aet->Bool:=Value.oneCell'
def gS{A:Type uA}{l:List A}{a:A}(h:l[i]?=some a):∃h:i<l.length,l[i]=a:=abv.1 h
def gA{A:Type uA}{l:Array A}{a:A}(h:l[i]?=some a):∃h:i<l.size,l[i]=a:=adx.1 h
def mG{A:Type uA}{l:List A}{i:Nat}{a:A}(h:l[i]?=some a):a∈l:=List.mem_of_getElem? h
def oN{q p:Prop}(a:q)(h:q->p:=by intro a;omega):p:=h a
inductive Blk where
 |cells (c:LV) (own:Bool) (sz:Nat)
 |dead
 |map (es:List (aet×aet))
 |iter (s:aes) (pos:Nat)
 deriving Inhabited
structure d7 where
 bs:List Blk
 low:Nat
def d7.g(H:d7)(b:Nat):Option Blk:=H.bs[b]?
def d7.n(H:d7):Nat:=H.bs.length
def d7.push(H:d7)(x:Blk):d7:=⟨H.bs++[x],H.low⟩
def d7.put(H:d7)(b:Nat)(x:Blk):d7:=⟨H.bs.set b x,min H.low b⟩
abbrev Env:=List (Nat×aet)
def Env.g:Env->Nat->aet
 |[],_=>undef
 |(k,v)::e,t=>if k=t then v else Env.g e t
def na0:aet->Bool
 | .bool _| .int _ _| .string _| .pointer none| .slice none 0 0| .map none| .nilFunc| .nilIface=>true
 | .func (.func _) f c=>f.isEmpty&&c.isEmpty
 |_=>false
def na1:aet->Bool
 | .agg cs=>cs.toList.all na0
 | .iface _ v=>na0 v
 |v=>na0 v
def N8:aet->Bool
 | .tuple vs=>vs.toList.all na1
 |v=>na1 v
section
variable(P:Program)
def D3(t:TypeId):Option Nat:=(P.info? t).map (·.size)
def Q2(t:TypeId):Option Nat:=(P.info? t).map (·.bytes)
def jk(t:TypeId):Option aet:=
 match(P.info? t).bind (·.zero)with
 |some z=>if na1 z then some z else none
 |none=>none
def N3(t:TypeId):Option (LV):=
 match(P.info? t).bind (·.zero)with
 |some z=>if z.cells.toList.all na0&&(D3 P t==some z.cells.size) then some z.cells.toList else none
 |none=>none
def cY(t:TypeId):Option Bool:=
 match P.underlying t with
 |some (.struct _)|some (.array _ _)=>some true
 |some _=>some false
 |none=>none
def zd(t:TypeId):Bool:=
 match P.underlying t with
 |some .bool=>true
 |_=>false
def F8(t:TypeId):Option TypeId:=
 match P.underlying t with
 |some (.slice e)=>some e
 |_=>none
def wq(t:TypeId):Option (TypeId×TypeId):=
 match P.underlying t with
 |some (.map k e)=>some (k,e)
 |_=>none
def wo(t:TypeId)(i:Nat):Option (Nat×TypeId):=
 match P.underlying t with
 |some (.struct fs)=>(fs[i]?).map fun f=>(f.offset,f.type)
 |_=>none
def JQ(t:TypeId):Option (List (Nat×Nat)⊕Nat):=
 match P.underlying t with
 |some (.struct fs)=>(fs.toList.mapM fun f=>(D3 P f.type).map fun s=>(f.offset,s)).map .inl
 |some (.array _ e)=>(D3 P e).map .inr
 |_=>none
inductive V1 where
 |bool|int|str
 deriving DecidableEq
def km(tf:TypeId->Option (List V1)):List Field->Nat->Option (List V1)
 |[],_=>some []
 |f::fs,n=>
  if f.name≠ "_" /\f.offset=n then
   match tf f.type with
   |some m=>if D3 P f.type=some m.length then(km tf fs (n+m.length)).map (m++ ·) else none
   |none=>none
  else none
def aq:Nat->TypeId->Option (List V1)
 |0,_=>none
 |d+1,t=>
  match P.underlying t with
  |some .bool=>some [.bool]
  |some (.int _)=>some [.int]
  |some .string=>some [.str]
  |some (.struct fs)=>if P.stoodInHeld t then none else km P (aq d) fs.toList 0
  |_=>none
def wl(t:TypeId):Option (List V1):=if P.eqGuardType P.depth t then none else aq P 9 t
def rI(t:TypeId):Option (List V1):=if cY P t==some true then wl P t else none
end
def P7:V1->aet->aet->Option Bool
 | .bool,.bool a,.bool b=>some (a==b)
 | .int,.int k a,.int k' b=>if k=k' then some (a==b) else none
 | .str,.string a,.string b=>some (a==b)
 |_,_,_=>none
def B8:List V1->LV->LV->Option Bool
 |[],[],[]=>some true
 |k::ks,x::xs,y::ys=>
  match P7 k x y,B8 ks xs ys with
  |some a,some b=>some (a&&b)
  |_,_=>none
 |_,_,_=>none
def eqA(P:Program)(t:TypeId):aet->aet->Option Bool
 | .bool a,.bool b=>if zd P t then some (a==b) else none
 | .int k a,.int k' b=>if k=k' then some (a==b) else none
 | .string a,.string b=>some (a==b)
 | .pointer none,.pointer b=>match P.underlying t with|some (.pointer _)=>some b.isNone|_=>none
 | .pointer (some _),.pointer none=>match P.underlying t with|some (.pointer _)=>some false|_=>none
 | .slice none _ _,.slice b _ _=>if(F8 P t).isSome then some b.isNone else none
 | .slice (some _) _ _,.slice none _ _=>if(F8 P t).isSome then some false else none
 | .map none,.map b=>if(wq P t).isSome then some b.isNone else none
 | .map (some _),.map none=>if(wq P t).isSome then some false else none
 | .agg xs,.agg ys=>match rI P t with|some ks=>B8 ks xs.toList ys.toList|none=>none
 |_,_=>none
def splice:LV->Nat->LV->LV
 |c,_,[]=>c
 |c,o,x::xs=>splice (c.set o x) (o+1) xs
def ld(P:Program)(t:TypeId)(H:d7):aet->Option aet
 | .pointer (some ⟨b,o,none⟩)=>
  match H.g b with
  |some (.cells c _ _)=>
   match cY P t with
   |some true=>
    match D3 P t with
    |some s=>if o+s<=c.length then some (.agg ((c.drop o).take s).toArray) else none
    |none=>none
   |some false=>c[o]?
   |none=>none
  |_=>none
 |_=>none
def sto(P:Program)(t:TypeId)(H:d7)(a x:aet):Option d7:=
 match a with
 | .pointer (some ⟨b,o,none⟩)=>
  match H.g b with
  |some (.cells c true sz)=>
   if D3 P t=some x.cells.toList.length/\o+x.cells.toList.length<=c.length/\x.cells.toList.all Value.oneCell'=true then
    some (H.put b (.cells (splice c o x.cells.toList) true sz))
   else none
  |_=>none
 |_=>none
def V7(place:Nat->Option (Nat×Nat)):LV->List (Nat×aet)->Option (LV)
 |cells,[]=>some cells
 |cells,(i,v)::rest=>
  match place i with
  |none=>none
  |some (off,size)=>
   if v.cells.toList.length≠size\/off+size>cells.length\/v.cells.toList.all Value.oneCell'=false then none
   else V7 place (splice cells off v.cells.toList) rest
def pL(P:Program)(t:TypeId)(parts:List (Nat×aet)):Option aet:=
 match N3 P t,JQ P t with
 |some z,some (.inl ps)=>(V7 (fun i=>ps[i]?) z parts).map fun l=> .agg l.toArray
 |some z,some (.inr s)=>(V7 (fun i=>some (i*s,s)) z parts).map fun l=> .agg l.toArray
 |_,_=>none
def T7(P:Program)(H:d7)(t:TypeId)(len:Nat)(parts:List (Nat×aet)):Option (aet×d7):=
 match F8 P t with
 |some e=>
  match N3 P e with
  |some z=>
   if z.length=0\/len*z.length>16777216\/(parts.all fun p=>p.2.cells.toList.all Value.oneCell')=false then none else
   match V7 (fun i=>some (i*z.length,z.length)) (List.replicate len z).flatten parts with
   |some cs=>some (.slice (some ⟨H.n,0,none⟩) len len,H.push (.cells cs true z.length))
   |none=>none
  |none=>none
 |none=>none
def P9(P:Program)(H:d7)(t:TypeId)(l c:aet):Option (aet×d7):=
 match F8 P t,l,c with
 |some e,.int _ n,.int _ m=>
  match N3 P e,Q2 P e with
  |some z,some by'=>
   if z.length≠0/\0<=n/\n<=m/\m<=9223372036854775807/\(by':Int)*m<=281474976710656 then
    some (.slice (some ⟨H.n,0,none⟩) n.toNat (n.toNat+1),H.push (.cells (List.replicate n.toNat z).flatten true z.length))
   else none
  |_,_=>none
 |_,_,_=>none
def A6(H:d7)(size:Nat):aet->Option (LV)
 | .slice none 0 _=>some []
 | .slice (some ⟨b,o,none⟩) n _=>
  if n=0 then some [] else
  match H.g b with
  |some (.cells cs _ _)=>if o+n*size<=cs.length then some ((cs.drop o).take (n*size)) else none
  |_=>none
 |_=>none
def U2(b:UInt8):aet:= .int .u8 b.toNat
def eu:aet->Option UInt8
 | .int .u8 n=>some (UInt8.ofNat n.toNat)
 |_=>none
def P5(P:Program)(H:d7)(size:Nat)(z:LV)(xType:Option TypeId)(x:aet):Option (Nat×LV):=
 match xType.bind P.underlying,x with
 |some (.slice _),.slice a n c=>(A6 H size (.slice a n c)).map fun l=>(n,l)
 |some .string,.string s=>if size=1 then some (s.size,s.data.toList.map U2) else none
 |some (.int _),.int .i64 n=>if 0<=n then some (n.toNat,(List.replicate n.toNat z).flatten) else none
 |_,_=>none
def A8(P:Program)(H:d7)(ts:List TypeId)(s x:aet):Option (aet×Option d7):=
 match ts.head?.bind (F8 P)with
 |none=>none
 |some e=>
  match D3 P e,Q2 P e,N3 P e with
  |some size,some by',some z=>
   if size=0\/by'=0 then none else
   match P5 P H size z (ts[1]?) x with
   |none=>none
   |some (n,xs)=>
    match s with
    | .slice none 0 0=>
     if n=0 then some (s,none)
     else if n*by'<=140737488355328 then some (.slice (some ⟨H.n,0,none⟩) n (n+1),some (H.push (.cells xs true size)))
     else none
    | .slice (some ⟨b,o,none⟩) len c=>
     if n=0 then some (s,none)
     else if(len+n)*by'<=140737488355328 then
      match H.g b with
      |some (.cells cs own sz)=>
       if o+len*size<=cs.length/\sz=size then
        if c=len then some (.slice (some ⟨H.n,0,none⟩) (len+n) (len+n+1),some (H.push (.cells ((cs.drop o).take (len*size)++xs) true size)))
        else if own then some (.slice (some ⟨H.n,0,none⟩) (len+n) (len+n+1),some ((H.put b .dead).push (.cells ((cs.drop o).take (len*size)++xs) true size)))
        else none
       else none
      |_=>none
     else none
    |_=>none
  |_,_,_=>none
def nr(P:Program)(H:d7)(ts:List TypeId)(d s:aet):Option (aet×Option d7):=
 match ts.head?.bind (F8 P)with
 |none=>none
 |some e=>
  match D3 P e,d with
  |some size,.slice da dn _=>
   if size=0 then none else
   match s with
   | .slice sa sn sc=>
    match A6 H size (.slice sa sn sc)with
    |some ys=>
     if min sn dn=0 then some (goInt 0,none) else
     match da with
     |some ⟨b,o,none⟩=>
      match H.g b with
      |some (.cells cs true sz)=>if o+(min sn dn)*size<=cs.length then some (goInt (min sn dn:Nat),some (H.put b (.cells (splice cs o (ys.take (min sn dn*size))) true sz))) else none
      |_=>none
     |_=>none
    |none=>none
   |_=>none
  |_,_=>none
def bnd:Option aet->Nat->Option Nat
 |none,d=>some d
 |some (.int _ i),_=>if 0<=i then some i.toNat else none
 |_,_=>none
def mX(H:d7)(b:Nat):Option Nat:=
 match H.g b with
 |some (.cells _ _ sz)=>some sz
 |_=>none
def L5(P:Program)(H:d7)(t:TypeId)(x:aet)(lo hi mx:Option aet):Option aet:=
 match P.underlying t,x with
 |some .string,.string s=>
  match bnd lo 0,bnd hi s.size,mx with
  |some l,some h,none=>if l<=h/\h<=s.size then some (.string (s.extract l h)) else none
  |_,_,_=>none
 |some (.slice e),.slice a n c=>
  match D3 P e,bnd lo 0,bnd hi n with
  |some size,some l,some h=>
   if size=0 then none else
   if l<=h/\h<=n then
    match mx with
    |none=>
     match a with
     |none=>some (.slice none 0 0)
     |some ⟨b,o,none⟩=>
      if n=0 then some (.slice (some ⟨b,o,none⟩) 0 c) else
      if mX H b≠some size then none else
      if c=n then(if h=n then some (.slice (some ⟨b,o+l*size,none⟩) (h-l) (h-l)) else none)
      else some (.slice (some ⟨b,o+l*size,none⟩) (h-l) (h-l+1))
     |_=>none
    |some m=>
     if bnd (some m) 0=some h/\hi.isSome=true then
      match a with
      |none=>some (.slice none 0 0)
      |some ⟨b,o,none⟩=>some (.slice (some ⟨b,o+l*size,none⟩) (h-l) (h-l))
      |_=>none
     else none
   else none
  |_,_,_=>none
 |_,_=>none
def X9(P:Program)(t:TypeId)(x ix:aet):Option aet:=
 match P.underlying t,x,ix with
 |some (.slice e),.slice (some ⟨b,o,none⟩) n _,.int _ i=>
  match D3 P e with
  |some size=>if 0<=i/\i<n then some (.pointer (some ⟨b,o+i.toNat*size,none⟩)) else none
  |none=>none
 |some (.array n e),.pointer (some ⟨b,o,none⟩),.int _ i=>
  match D3 P e with
  |some size=>if 0<=i/\i<n then some (.pointer (some ⟨b,o+i.toNat*size,none⟩)) else none
  |none=>none
 |_,_,_=>none
def jT(P:Program)(t:TypeId)(cs:LV)(off:Nat):Option aet:=
 match cY P t,D3 P t with
 |some true,some s=>some (.agg ((cs.drop off).take s).toArray)
 |some false,_=>cs[off]?
 |_,_=>none
def iW(P:Program)(t:TypeId)(x ix:aet):Option aet:=
 match P.underlying t,x,ix with
 |some (.array n e),.agg cs,.int _ i=>
  match D3 P e with
  |some size=>if 0<=i/\i<n then jT P e cs.toList (i.toNat*size) else none
  |none=>none
 |some .string,.string s,.int _ i=>if 0<=i/\i<s.size then some (.int .u8 (s.data.toList.getD i.toNat 0).toNat) else none
 |_,_,_=>none
def mD(P:Program)(t:TypeId)(x:aet)(i:Nat):Option aet:=
 match wo P t i,x with
 |some (off,ft),.agg cs=>jT P ft cs.toList off
 |_,_=>none
def bZ(P:Program)(t:TypeId)(x:aet)(i:Nat):Option aet:=
 match wo P t i,x with
 |some (off,ft),.pointer (some ⟨b,o,none⟩)=>
  match D3 P ft with
  |some s=>if s=0 then none else some (.pointer (some ⟨b,o+off,none⟩))
  |none=>none
 |_,_=>none
def qy(P:Program)(kt:TypeId)(x y:aet):Option Bool:=
 match wl P kt,cY P kt with
 |some ks,some true=>match x,y with
  | .agg a,.agg b=>B8 ks a.toList b.toList
  |_,_=>none
 |some [k],some false=>P7 k x y
 |_,_=>none
def jO(P:Program)(kt:TypeId)(k:aet):List (aet×aet)->Nat->Option (Option (Nat×aet))
 |[],_=>some none
 |(k',v)::es,i=>
  match qy P kt k k' with
  |some true=>some (some (i,v))
  |some false=>jO P kt k es (i+1)
  |none=>none
def mI:V1->aet->Bool
 | .bool,.bool _| .int,.int _ _| .str,.string _=>true
 |_,_=>false
def Y2:List V1->LV->Bool
 |[],[]=>true
 |k::ks,x::xs=>mI k x&&Y2 ks xs
 |_,_=>false
def aH(P:Program)(kt:TypeId)(k:aet):Bool:=
 match wl P kt,cY P kt,k with
 |some ks,some true,.agg cs=>Y2 ks cs.toList
 |some ks,some false,v=>Y2 ks [v]
 |_,_,_=>false
def jv(P:Program)(H:d7)(t:TypeId)(m k:aet)(ok:Bool):Option aet:=
 match wq P t with
 |some (kt,et)=>
  if aH P kt k then
   match m with
   | .map (some b)=>
    match H.g b with
    |some (.map es)=>
     match jO P kt k es 0,jk P et with
     |some (some (_,v)),some _=>some (if ok then .tuple #[v,.bool true] else v)
     |some none,some z=>some (if ok then .tuple #[z,.bool false] else z)
     |_,_=>none
    |_=>none
   | .map none=>(jk P et).map fun z=>if ok then .tuple #[z,.bool false] else z
   |_=>none
  else none
 |none=>none
def aL(P:Program)(H:d7)(t:TypeId)(m k v:aet):Option d7:=
 match wq P t with
 |some (kt,_)=>
  if aH P kt k then
   match m with
   | .map (some b)=>
    match H.g b with
    |some (.map es)=>
     match jO P kt k es 0 with
     |some (some (i,_))=>some (H.put b (.map (es.set i (k,v))))
     |some none=>some (H.put b (.map (es++[(k,v)])))
     |none=>none
    |_=>none
   |_=>none
  else none
 |none=>none
def I3(P:Program)(op:BinOp)(t:TypeId)(x y:aet):Option aet:=
 match op with
 | .eql=>(eqA P t x y).map .bool
 | .neq=>(eqA P t x y).map fun b=> .bool !b
 | .shl=>match x,y with
  | .int k a,.int _ b=>if 0<=b then some (.int k (k.wrap (a*2 ^ (min b.toNat k.bits)))) else none
  |_,_=>none
 | .shr=>match x,y with
  | .int k a,.int _ b=>if 0<=b then some (.int k (a.fdiv (2 ^ (min b.toNat k.bits)))) else none
  |_,_=>none
 |_=>
  match x,y with
  | .int k a,.int k' b=>
   if k=k' then
    match op with
    | .add=>some (.int k (k.wrap (a+b)))
    | .sub=>some (.int k (k.wrap (a-b)))
    | .mul=>some (.int k (k.wrap (a*b)))
    | .quo=>if b=0 then none else some (.int k (k.wrap (a.tdiv b)))
    | .rem=>if b=0 then none else some (.int k (a.tmod b))
    | .and=>some (.int k (Go.bits .and k a b))
    | .or=>some (.int k (Go.bits .or k a b))
    | .xor=>some (.int k (Go.bits .xor k a b))
    | .andNot=>some (.int k (Go.bits .andNot k a b))
    | .lss=>some (.bool (a<b))
    | .leq=>some (.bool (a<=b))
    | .gtr=>some (.bool (a>b))
    | .geq=>some (.bool (a≥b))
    |_=>none
   else none
  | .string a,.string b=>
   match op with
   | .add=>if a.size+b.size<=9223372036854775807 then some (.string (a++b)) else none
   | .lss=>some (.bool (Op.bytesLess a.toList b.toList))
   | .leq=>some (.bool (Op.bytesLess a.toList b.toList||a.toList==b.toList))
   | .gtr=>some (.bool !(Op.bytesLess a.toList b.toList||a.toList==b.toList))
   | .geq=>some (.bool !(Op.bytesLess a.toList b.toList))
   |_=>none
  |_,_=>none
def unA(op:UnOp)(x:aet):Option aet:=
 match op,x with
 | .neg,.int k n=>some (.int k (k.wrap (0-n)))
 | .not,.bool b=>some (.bool !b)
 | .xor,.int k n=>some (.int k (Go.bits .xor k (if k.signed then -1 else k.max) n))
 |_,_=>none
def aU(P:Program)(H:d7)(src dst:TypeId)(x:aet):Option (aet×Option d7):=
 match P.underlying src,P.underlying dst,x with
 |some _,some (.int k),.int _ n=>some (.int k (k.wrap n),none)
 |some _,some .string,.string s=>some (.string s,none)
 |some (.slice e),some .string,.slice a n c=>
  match P.underlying e with
  |some (.int .u8)=>match(A6 H 1 (.slice a n c)).bind (·.mapM eu)with
   |some l=>some (.string ⟨l.toArray⟩,none)
   |none=>none
  |_=>none
 |some _,some (.slice e),.string s=>
  match P.underlying e with
  |some (.int .u8)=>some (.slice (some ⟨H.n,0,none⟩) s.size (s.size+1),some (H.push (.cells (s.data.toList.map U2) true 1)))
  |some (.int .i32)=>
   some (.slice (some ⟨H.n,0,none⟩) (Conv.runesFrom s s.size 0 #[]).size ((Conv.runesFrom s s.size 0 #[]).size+1),some (H.push (.cells (Conv.runesFrom s s.size 0 #[]).toList true 1)))
  |_=>none
 |_,_,_=>none
def Iw(P:Program)(H:d7)(ts:List TypeId)(x:aet):Option aet:=
 match ts.head?.bind P.underlying,x with
 |some .string,.string s=>some (goInt s.size)
 |some (.slice _),.slice _ n _=>some (goInt n)
 |some (.array n _),_=>some (goInt n)
 |some (.map _ _),.map none=>some (goInt 0)
 |some (.map _ _),.map (some b)=>match H.g b with
  |some (.map es)=>some (goInt es.length)
  |_=>none
 |_,_=>none
def kv(mx:Bool):LV->Option aet
 |[.int k a]=>some (.int k a)
 | .int k a:: .int k' b::rest=>if k=k' then kv mx (.int k (if mx then(if b>a then b else a) else(if b<a then b else a))::rest) else none
 |_=>none
termination_by l=>l.length
def opv(e:Env):Operand->aet
 | .tmp t=>e.g t
 | .const v=>v
 | .func f=> .func (.func f) #[] #[]
 | .global _=>undef
abbrev B9:=FuncId->LV->d7->Option (aet×Option d7)
def D9(P:Program)(b:Builtin)(ts:List TypeId)(args:LV)(H:d7):Option (aet×Option d7):=
 match b,args with
 | .len,[x]=>(Iw P H ts x).map fun v=>(v,none)
 | .append,[s,x]=>A8 P H ts s x
 | .copy,[d,s]=>nr P H ts d s
 | .max,xs=>(kv true xs).map fun v=>(v,none)
 | .min,xs=>(kv false xs).map fun v=>(v,none)
 | .cap,[.slice none 0 0]=>match ts.head?.bind P.underlying with
  |some (.slice _)=>some (goInt 0,none)
  |_=>none
 |_,_=>none
def iE(P:Program)(C:B9)(e:Env)(c:Call)(H:d7):Option (aet×Option d7):=
 match c.callee with
 | .builtin b=>D9 P b c.argTypes.toList (c.args.toList.map (opv e)) H
 | .value f=>
  match opv e f with
  | .func (.func g) first captured=>C g (first.toList++c.args.toList.map (opv e)++captured.toList) H
  |_=>none
 | .invoke _ _=>none
def lN(H:d7)(it:aet):Option (aet×Option d7):=
 match it with
 | .pointer (some ⟨b,0,none⟩)=>
  match H.g b with
  |some (.iter s pos)=>
   if pos<s.size then
    some (.tuple #[.bool true,goInt pos,.int .i32 (Utf8.decode s pos).1],some (H.put b (.iter s (pos+(Utf8.decode s pos).2))))
   else some (.tuple #[.bool false],none)
  |_=>none
 |_=>none
def keep(v:Option aet):Option (aet×Option d7):=v.map fun v=>(v,none)
def turn(r:Option (aet×d7)):Option (aet×Option d7):=r.map fun(v,H)=>(v,some H)
def aop(P:Program)(C:B9)(o:Op)(e:Env)(H:d7):Option (aet×Option d7):=
 match o with
 | .move x| .assign x=>keep (some (opv e x))
 | .pick c a b=>match opv e c with
  | .bool t=>keep (some (if t then opv e a else opv e b))
  |_=>none
 | .alloc t=>turn ((N3 P t).map fun z=>(.pointer (some ⟨H.n,0,none⟩),H.push (.cells z true 1)))
 | .box _ x=>if(opv e x).cells.toList.all Value.oneCell' then turn (some (.pointer (some ⟨H.n,0,none⟩),H.push (.cells (opv e x).cells.toList true 1))) else none
 | .build t parts=>keep (pL P t (parts.toList.map fun(i,x)=>(i,opv e x)))
 | .buildSlice t len parts=>turn (T7 P H t len (parts.toList.map fun(i,x)=>(i,opv e x)))
 | .load t a=>keep (ld P t H (opv e a))
 | .store t a x=>turn ((sto P t H (opv e a) (opv e x)).map fun H'=>(undef,H'))
 | .nilCheck x=>match opv e x with
  | .pointer (some a)=>keep (some (.pointer (some a)))
  | .func (.func g) f c=>keep (some (.func (.func g) f c))
  |_=>none
 | .binOp op t x y _=>keep (I3 P op t (opv e x) (opv e y))
 | .unOp op _ x=>keep (unA op (opv e x))
 | .convert s d x=>aU P H s d (opv e x)
 | .makeInterface t x=>if P.concrete t then keep (some (.iface t (opv e x))) else none
 | .makeFunc fn first captured=>match fn with
  | .func g=>keep (some (.func (.func g) (first.toList.map (opv e)).toArray (captured.toList.map (opv e)).toArray))
  |_=>none
 | .makeMap _ none=>turn (some (.map (some H.n),H.push (.map [])))
 | .makeSlice t l c=>turn (P9 P H t (opv e l) (opv e c))
 | .slice t x lo hi mx=>keep (L5 P H t (opv e x) (lo.map (opv e)) (hi.map (opv e)) (mx.map (opv e)))
 | .fieldAddr s x f=>keep (bZ P s (opv e x) f)
 | .field s x f=>keep (mD P s (opv e x) f)
 | .indexAddr t x ix=>keep (X9 P t (opv e x) (opv e ix))
 | .index t x ix=>keep (iW P t (opv e x) (opv e ix))
 | .lookup t m k ok=>keep (jv P H t (opv e m) (opv e k) ok)
 | .mapUpdate t m k v=>turn ((aL P H t (opv e m) (opv e k) (opv e v)).map fun H'=>(undef,H'))
 | .range t x=>match P.underlying t,opv e x with
  |some .string,.string s=>turn (some (.pointer (some ⟨H.n,0,none⟩),H.push (.iter s 0)))
  |_,_=>none
 | .next it true=>lN H (opv e it)
 | .extract x i=>match opv e x with
  | .tuple vs=>if vs.toList.length<9 then keep (vs.toList[i]?) else none
  |_=>none
 | .call c=>iE P C e c H
 |_=>none
inductive Out where
 |normal
 |exit (id:Nat)
 |ret
 deriving DecidableEq
def isB(v:aet)(b:Bool):Bool:=match v with| .bool c=>c==b|_=>false
def F0(ops:Array Oper)(e:Env)(o:Oper):Bool:=
 match o.guard with
 |none=>true
 |some (j,b)=>match(ops[j]?).bind (·.dst)with
  |some d=>isB (e.g d) b
  |none=>false
def lost:aet:= .tuple #[.chan none,.chan none,.chan none,.chan none,.chan none,.chan none,.chan none,.chan none,.chan none]
def AF:aet->Bool
 | .tuple vs=>decide (vs.toList.length=9)
 |_=>false
def ak(ops:Array Oper)(e:Env)(o:Oper):Bool:=
 match o.guard with
 |none=>false
 |some (j,_)=>match(ops[j]?).bind (·.dst)with
  |some d=>AF (e.g d)
  |none=>false
def L7(e:Env):Option Nat->aet->Env
 |some d,v=>(d,v)::e
 |none,_=>e
def D7(P:Program)(C:B9)(ops:Array Oper):List Oper->Env->d7->Option (Env×d7)
 |[],e,H=>some (e,H)
 |o::rest,e,H=>
  if ak ops e o then none else if F0 ops e o then
   match aop P C o.op e H with
   |some (v,none)=>D7 P C ops rest (L7 e o.dst v) H
   |some (v,some H')=>D7 P C ops rest (L7 e o.dst v) H'
   |none=>none
  else D7 P C ops rest (L7 e o.dst undef) H
def isCall:Op->Bool
 | .call {callee:= .value _,.. }=>true
 |_=>false
def qX:Op->Bool
 | .move _| .assign _| .slice .. =>true
 |_=>false
def pureTailB(ops:Array Oper)(n:Nat):Bool:=
 Region.noSelect ops&&decide (n<ops.size)&&(ops.toList.take n).all (fun o=>o.guard.isNone&&qX o.op)&&Region.lexHead .any ops (ops.size-n) n 0 (Array.replicate ops.size false)
def Dc(ops:Array Oper)(n:Nat):Bool:=Region.lexTailB .any ops n||pureTailB ops n
def L6(P:Program)(C:B9)(ops:Array Oper):Nat->Bool->List Oper->Env->d7->Option (Env×d7)
 |_,_,[],e,H=>if Region.lexB .any ops then some (e,H) else none
 |i,q,o::rest,e,H=>
  if ak ops e o then none else if F0 ops e o then
   match aop P C o.op e H with
   |some (v,none)=>L6 P C ops (i+1) (q||isCall o.op) rest (L7 e o.dst v) H
   |some (v,some H')=>if !q&&Dc ops i then D7 P C ops rest (L7 e o.dst v) H' else none
   |none=>none
  else L6 P C ops (i+1) q rest (L7 e o.dst undef) H
def C0:Op->Bool
 | .alloc _| .box .. | .buildSlice .. | .store .. | .makeMap .. | .makeSlice .. | .mapUpdate .. | .range .. | .next .. | .convert .. =>true
 | .call ⟨.value _,_,_⟩=>true
 | .call ⟨.builtin .len,_,_⟩=>false
 | .call ⟨.builtin _,_,_⟩=>true
 |_=>false
def bJ:Op->Bool
 | .alloc _| .buildSlice .. =>true
 |_=>false
def rdK:Op->Bool
 | .load .. | .slice .. | .lookup .. | .call _=>true
 |_=>false
def Uy:Op->Bool
 | .call ⟨.value _,_,_⟩| .convert .. =>false
 |o=>C0 o
def X6(o:Oper):List Nat:=(o.after.toList.filter fun e=>Region.binds .any e).map (·.on)
def F5:List Oper->List Nat->List Nat
 |[],acc=>acc
 |o::r,acc=>F5 r (acc++[(X6 o).foldl (fun m d=>m|||(1<<<d)|||acc.getD d 0) 0])
def isAnc(A:List Nat)(i k:Nat):Bool:=(A.getD i 0).testBit k
def oY(ops:Array Oper)(A:List Nat)(i k:Nat)(oi ok:Oper):Bool:=
 (match ok.dst with
  |none=>true
  |some d=>(!(oi.looksAt ops).contains d||(if k<i then isAnc A i k else if i<k then isAnc A k i else false))&&(k==i||oi.dst !=some d)&&
   (!bJ ok.op||((C0 oi.op&& !bJ oi.op)|| !(oi.looksAt ops).contains d)))&&
 (!(decide (k<i)&&C0 oi.op&& !bJ oi.op&&C0 ok.op)||isAnc A i k)
def mK(ops:Array Oper)(A:List Nat)(i:Nat)(oi:Oper):Bool:=
 (X6 oi).all (· <i)&&(List.range ops.size).all (fun k=> !isAnc A i k||(X6 oi).any (fun d=>d==k||isAnc A d k))&&
 (List.range ops.size).all (fun k=>match ops[k]? with|none=>false|some ok=>oY ops A i k oi ok)&&
 (!bJ oi.op||(oi.guard.isNone&&oi.dst.isSome))
def nO(ops:Array Oper)(A:List Nat):Bool:=
 Region.noSelect ops&&(List.range ops.size).all fun i=>match ops[i]? with|none=>false|some oi=>mK ops A i oi
def W7(ops:Array Oper):List Nat:=(List.range ops.size).filter fun i=>match ops[i]? with|some o=>C0 o.op|none=>false
def vM(A tl:List Nat)(i:Nat):Nat×Nat:=((tl.takeWhile fun c=>isAnc A i c).length,(tl.takeWhile fun c=> !isAnc A c i).length)
def Wd(ops:Array Oper):Bool:=(List.range ops.size).any fun i=>match ops[i]? with
 |none=>false
 |some x=>isCall x.op&&C0 x.op&&(ops.toList.drop (i+1)).any fun y=>isCall y.op&&C0 y.op
def vL(ops:Array Oper):Bool:=
 ((List.range ops.size).any fun i=>match ops[i]? with
  |none=>false
  |some o=>(Uy o.op&& !Dc ops i)||(isCall o.op&&(ops.toList.drop (i+1)).any fun o=>Uy o.op))||(Wd ops&&nO ops (F5 ops.toList []))
def noC:B9:=fun _ _ _=>none
def uY(P:Program):List (Op×Env×aet×Nat)->Nat->d7->Prop
 |[],_,_=>True
 |(o,e,v,hi)::r,j,H=>(j<=hi->aop P noC o e H=some (v,none))/\uY P r j H
def uX(P:Program)(o:Op)(e:Env)(v:aet)(lo:Nat):List (Nat×d7)->Prop
 |[]=>True
 |(j,K)::r=>(lo<=j->aop P noC o e K=some (v,none))/\uX P o e v lo r
open Classical in
noncomputable def M0(P:Program)(C:B9)(ops:Array Oper):Nat->List (Nat×d7)->List (Op×Env×aet×Nat)->List (Oper×Nat×Nat)->Env->d7->Option (Env×d7)
 |_,_,_,[],e,H=>some (e,H)
 |t,Ks,obs,(o,lo,hi)::rest,e,H=>
  if ak ops e o then none else if F0 ops e o then
   if C0 o.op then
    match aop P C o.op e H with
    |some (v,r)=>if uY P obs (t+1) (r.getD H) then M0 P C ops (t+1) ((t,H)::Ks) obs rest (L7 e o.dst v) (r.getD H) else none
    |none=>none
   else
    match aop P noC o.op e H with
    |some (v,none)=>if rdK o.op then(if uX P o.op e v lo Ks then M0 P C ops t Ks ((o.op,e,v,hi)::obs) rest (L7 e o.dst v) H else none) else M0 P C ops t Ks obs rest (L7 e o.dst v) H
    |_=>none
  else if C0 o.op then M0 P C ops (t+1) ((t,H)::Ks) obs rest (L7 e o.dst undef) H
  else M0 P C ops t Ks obs rest (L7 e o.dst undef) H
def lI(ops:Array Oper):List (Oper×Nat×Nat):=ops.toList.zipIdx.map fun q=>(q.1,vM (F5 ops.toList []) (W7 ops) q.2)
noncomputable def bS(P:Program)(C:B9)(ops:Array Oper)(e:Env)(H:d7):Option (Env×d7):=
 if vL ops then(if nO ops (F5 ops.toList []) then M0 P C ops 0 [] [] (lI ops) e H else none) else L6 P C ops 0 false ops.toList e H
def eA:Code->List Nat
 | .region _ ops _=>ops.toList.filterMap (·.dst)
 | .seq a b=>eA a++eA b
 | .cond _ a b=>eA a++eA b
 | .block _ a| .loop a| .scope a=>eA a
 |_=>[]
def Mj:Op->Bool
 | .alloc _=>true
 |_=>false
def CR:Op->Bool
 | .store _ _ _=>true
 |_=>false
def Qx:Op->Bool
 | .load _ _=>true
 |_=>false
def gR(ops:Array Oper)(listed:List Bool)(rs:List Nat):Bool:=decide (Region.ready .any ops listed.toArray=rs)
def Cr(ops:Array Oper):Bool:=
 match ops.toList with
 |[o0,o1,o2,o3]=>Mj o0.op&&CR o1.op&&CR o2.op&&Qx o3.op&&decide (o0.guard=none)&&gR ops [false,false,false,false] [0]&&gR ops [true,false,false,false] [1,2]&&
   gR ops [true,true,false,false] [2]&&gR ops [true,false,true,false] [1]&&gR ops [true,true,true,false] [3]&&gR ops [true,true,true,true] []
 |_=>false
structure NR where
 ops:Array Oper
 l1:List Oper
 l2:List Oper
 ds:List Nat
def tp(a b:Code):Option NR:=
 match a with
 | .region _ ops true=>match ops.toList with
  |[o0,o1,o2,o3]=>if Cr ops then some ⟨ops,[o0,o1,o2,o3],[o0,o2,o1,o3],ops.toList.filterMap (·.dst)++eA b⟩ else none
  |_=>none
 |_=>none
def Q5(n:Nat)(H:d7):d7:=(H.put n .dead).put (n+1) .dead
open Classical in
noncomputable def HR(ds:List Nat)(e:Env)(n:Nat)(x y:Option (Out×Env×d7)):Option (Out×Env×d7):=
 match x,y with
 |some (.normal,_,H1),some (.normal,_,H2)=>if Q5 n H1=Q5 n H2 then some (.normal,ds.map (fun d=>(d,lost))++e,Q5 n H1) else none
 |_,_=>none
noncomputable def N4(P:Program)(C:B9):Nat->Code->Env->d7->Option (Out×Env×d7)
 |0,_,_,_=>none
 |k+1,c,e,H=>
  match c with
  | .skip=>some (.normal,e,H)
  | .ret=>some (.ret,e,H)
  | .exit id=>some (.exit id,e,H)
  | .region _ ops draw=>
   match(if draw then bS P C ops e H else D7 P C ops ops.toList e H)with
   |some (e',H')=>some (.normal,e',H')
   |none=>none
  | .seq a b=>
   match tp a b with
   |some z=>
    match D7 P C z.ops z.l1 e H,D7 P C z.ops z.l2 e H with
    |some (e1,H1),some (e2,H2)=>HR z.ds e H.n (N4 P C k b e1 H1) (N4 P C k b e2 H2)
    |_,_=>none
   |none=>
    match N4 P C k a e H with
    |some (.normal,e',H')=>N4 P C k b e' H'
    |r=>r
  | .cond x a b=>
   match opv e x with
   | .bool t=>N4 P C k (if t then a else b) e H
   |_=>none
  | .block id a=>
   match N4 P C k a e H with
   |some (.exit i,e',H')=>if i=id then some (.normal,e',H') else some (.exit i,e',H')
   |r=>r
  | .loop a=>
   match N4 P C k a e H with
   |some (.normal,e',H')=>N4 P C k (.loop a) e' H'
   |r=>r
  | .scope a=>N4 P C k a e H
  |_=>none
def D0:Operand->Bool
 | .const v=>N8 v
 | .global _=>false
 |_=>true
def ii(nt:Nat):Option Nat->Bool
 |some d=>decide (d<nt)
 |none=>true
def io(nt:Nat)(ops:Array Oper):Bool:=
 ops.toList.all fun o=>o.op.operands.toList.all D0&&ii nt o.dst
def L3(nt:Nat):Code->Bool
 | .skip| .ret| .exit _=>true
 | .region _ ops _=>io nt ops
 | .seq a b=>L3 nt a&&L3 nt b
 | .cond c a b=>D0 c&&L3 nt a&&L3 nt b
 | .block _ a| .loop a| .scope a=>L3 nt a
 |_=>false
def lO:Op->Bool
 | .defer _=>false
 |_=>true
def I1:Code->Bool
 | .skip| .ret| .exit _=>true
 | .region _ ops draw=>ops.toList.all (fun o=>lO o.op)&&(!draw||(vL ops&&nO ops (F5 ops.toList [])))
 | .seq a b=>(tp a b).isNone&&I1 a&&I1 b
 | .cond _ a b=>I1 a&&I1 b
 | .block _ a| .loop a=>I1 a
 |_=>false
def fnA(P:Program)(f:FuncId):Option (Code×Nat×List ResultVar):=
 match P.funcs[f]? with
 |some fn=>
  match fn.body with
  |some c=>if L3 fn.ntmps c&&(fn.name != "runtime.NumGoroutine") then some (c,fn.ntmps,fn.results.toList) else none
  |none=>none
 |none=>none
def N0(P:Program)(e:Env)(H:d7):ResultVar->Option aet
 | .tmp t=>some (e.g t)
 | .cell a t=>ld P t H (e.g a)
def cU:LV->aet
 |[v]=>v
 |vs=> .tuple vs.toArray
def Q4:Nat->LV->Env
 |_,[]=>[]
 |i,v::vs=>(i,v)::Q4 (i+1) vs
def E7(v:aet)(H H':d7):aet×Option d7:=
 if N8 v&&decide (H.bs.length<=H'.low) then(v,none) else(v,some ⟨H'.bs,min H.low H'.low⟩)
abbrev Lib:=FuncId->Option (LV->d7->Option (aet×Option d7))
def body(P:Program)(ex:Code->Env->d7->Option (Out×Env×d7))(f:FuncId)(args:LV)(H:d7):Option (aet×Option d7):=
 match fnA P f with
 |some (c,nt,rs)=>
  if args.length<=nt then
   match ex c (Q4 0 args) ⟨H.bs,H.bs.length⟩with
   |some (.exit _,_,_)=>none
   |some (_,e,H')=>
    match rs.mapM (N0 P e H')with
    |some vs=>some (E7 (cU vs) H H')
    |none=>none
   |none=>none
  else none
 |none=>none
noncomputable def call(P:Program)(X:Lib):Nat->B9
 |0,_,_,_=>none
 |k+1,f,args,H=>
  match X f with
  |some g=>g args H
  |none=>body P (N4 P (call P X k) k) f args H
end Go.Proofs.YtbekeboballbgaaGreatDoor.Ve
namespace Go.Proofs.YtbekeboballbgaaGreatDoor.Ve
open Go Go.RowKit
structure Loc where
 blk:Nat
 off:Nat
 cap:Nat
 sz:Nat
def Ext(φ φ':List Loc):Prop:=∀(b:Nat)(l:Loc),φ[b]?=some l->φ'[b]?=some l
def Ext.refl(φ:List Loc):Ext φ φ:=fun _ _ h=>h
def Ext.trans{a b c:List Loc}(h:Ext a b)(k:Ext b c):Ext a c:=fun _ _ x=>k _ _ (h _ _ x)
def Ext.snoc(φ:List Loc)(l:Loc):Ext φ (φ++[l]):=fun b u h=>by
 rw[xd];exact h;exact(gS h).1
inductive VR(φ:List Loc):aet->aet->Prop
 |bool (b:Bool):VR φ (.bool b) (.bool b)
 |int (k:IntKind) (n:Int):VR φ (.int k n) (.int k n)
 |string (s:aes):VR φ (.string s) (.string s)
 |nilptr:VR φ (.pointer none) (.pointer none)
 |ptr {b o:Nat} {l:Loc} (h:φ[b]?=some l):VR φ (.pointer (some ⟨b,o,none⟩)) (.pointer (some ⟨l.blk,l.off+o,none⟩))
 |nilslice:VR φ (.slice none 0 0) (.slice none 0 0)
 |slice0 {a a':Addr} {c:Nat}:VR φ (.slice (some a) 0 c) (.slice (some a') 0 0)
 |exact{b o n:Nat} {l:Loc} (h:φ[b]?=some l):VR φ (.slice (some ⟨b,o,none⟩) n n) (.slice (some ⟨l.blk,l.off+o,none⟩) n n)
 |slice {b o n c:Nat} {l:Loc} (h:φ[b]?=some l) (hn:n<=c) (hc:o+c*l.sz<=l.cap):
   VR φ (.slice (some ⟨b,o,none⟩) n (n+1)) (.slice (some ⟨l.blk,l.off+o,none⟩) n c)
 |nilmap:VR φ (.map none) (.map none)
 |map {b:Nat} {l:Loc} (h:φ[b]?=some l):VR φ (.map (some b)) (.map (some l.blk))
 |nilFunc:VR φ .nilFunc .nilFunc
 |func (f:FuncId) {a a' c c':Array aet} (ha:a.toList.length=a'.toList.length) (h:∀(i:Nat) x y,a.toList[i]?=some x->a'.toList[i]?=some y->VR φ x y)
   (hc:c.toList.length=c'.toList.length) (h':∀(i:Nat) x y,c.toList[i]?=some x->c'.toList[i]?=some y->VR φ x y):VR φ (.func (.func f) a c) (.func (.func f) a' c')
 |nilIface:VR φ .nilIface .nilIface
 |iface (t:TypeId) {v v':aet} (h:VR φ v v'):VR φ (.iface t v) (.iface t v')
 |agg {a a':Array aet} (ha:a.toList.length=a'.toList.length) (h:∀(i:Nat) x y,a.toList[i]?=some x->a'.toList[i]?=some y->VR φ x y):VR φ (.agg a) (.agg a')
 |tuple {a a':Array aet} (ha:a.toList.length=a'.toList.length) (h:∀(i:Nat) x y,a.toList[i]?=some x->a'.toList[i]?=some y->VR φ x y):VR φ (.tuple a) (.tuple a')
 |lost (v:aet):VR φ lost v
def VRs(φ:List Loc)(xs ys:LV):Prop:=xs.length=ys.length/\∀(i:Nat) x y,xs[i]?=some x->ys[i]?=some y->VR φ x y
def VR.mono(D:Ext φ J){a b:aet}(h:VR φ a b):VR J a b:=by
 induction h with
 |bool b=>exact .bool b
 |int k n=>exact .int k n
 |string s=>exact .string s
 |nilptr=>exact .nilptr
 |ptr h=>exact .ptr (D _ _ h)
 |nilslice=>exact .nilslice
 |slice0=>exact .slice0
 |exact h=>exact .exact (D _ _ h)
 |slice h O E=>exact .slice (D _ _ h) O E
 |nilmap=>exact .nilmap
 |map h=>exact .map (D _ _ h)
 |nilFunc=>exact .nilFunc
 |func f z h E S u I=>exact .func f z (fun i x y p q=>u i x y p q) E (fun i x y p q=>I i x y p q)
 |nilIface=>exact .nilIface
 |iface t h u=>exact .iface t u
 |agg z h u=>exact .agg z (fun i x y p q=>u i x y p q)
 |tuple z h u=>exact .tuple z (fun i x y p q=>u i x y p q)
 |lost v=>exact .lost v
def VRs.mono(z:Ext φ u){a b:LV}(h:VRs φ a b):VRs u a b:=⟨h.1,fun i x y p q=>(h.2 i x y p q).mono z⟩
def VRs.nil(φ:List Loc):VRs φ [] []:=⟨rfl,fun i x y p=>by simp at p⟩
def VRs.cons(h:VR φ x y)(k:VRs φ xs u):VRs φ (x::xs) (y::u):=
 ⟨by simp [k.1],fun i a b p q=>by
  cases i with
  |zero=>simp at p q;subst p;subst q;exact h
  |succ i=>simp at p q;exact k.2 i a b p q⟩
def VRs.of_cons(h:VRs φ (x::xs) z):∃y u,z=y::u/\VR φ x y/\VRs φ xs u:=by
 cases z with
 |nil=>have:=h.1;simp at this
 |cons y u=>
  refine⟨y,u,rfl,h.2 0 x y sM sM,by have:=h.1;simpa using this,fun i a b p q=>h.2 (i+1) a b (by simpa using p) (by simpa using q)⟩
def VRs.of_nil(h:VRs φ [] u):u=[]:=by
 have:=h.1;cases u with
 |nil=>rfl
 |cons _ _=>simp at this
def VRs.append{a b c d:LV}(h:VRs φ a b)(k:VRs φ c d):VRs φ (a++c) (b++d):=by
 induction a generalizing b with
 |nil=>rw[h.of_nil];simpa using k
 |cons x xs D=>obtain⟨y,E,rfl,u,z⟩:=h.of_cons;simpa using VRs.cons u (D z)
def VRs.g{φ:List Loc}{a b:LV}(h:VRs φ a b){i:Nat}{x:aet}(z:a[i]?=some x):∃y,b[i]?=some y/\VR φ x y:=by
 have D:i<a.length:=(gS z).1;have u:i<b.length:=by rw[<-h.1];exact D
 exact⟨b[i],by simp [u],h.2 i x b[i] z (by simp [u])⟩
def VRs.take{a b:LV}(h:VRs φ a b)(n:Nat):VRs φ (a.take n) (b.take n):=
 ⟨by simp [h.1],fun i x y p q=>by
  rw[aaO]at p q;split at p
  next u=>rw[cA u]at q;exact h.2 i x y p q
  .simp at p⟩
def VRs.drop{a b:LV}(h:VRs φ a b)(n:Nat):VRs φ (a.drop n) (b.drop n):=
 ⟨by simp [h.1],fun i x y p q=>by rw[aaA]at p q;exact h.2 _ x y p q⟩
def VRs.map{α:Type}(f g:α->aet)(l:List α)(h:∀x∈l,VR φ (f x) (g x)):VRs φ (l.map f) (l.map g):=by
 induction l with
 |nil=>exact .nil φ
 |cons x xs z=>exact .cons (h x sM) (z fun y u=>h y (by simp [u]))
def VRs.set{a b:LV}(h:VRs φ a b)(i:Nat)(I:VR φ x y):VRs φ (a.set i x) (b.set i y):=
 ⟨by simp [h.1],fun j p q u z=>by
  rw[abb]at u z;by_cases D:i=j
  .subst D;rw[cA rfl]at u z;by_cases E:i<a.length
   .rw[cA E]at u;rw[cA (by rw[<-h.1];exact E)]at z;cases u;cases z;exact I
   .rw[bt E]at u;cases u
  .rw[bt D]at u z;exact h.2 j p q u z⟩
def VR.toAgg{a b:LV}(h:VRs φ a b):VR φ (.agg a.toArray) (.agg b.toArray):= .agg (by simpa using h.1) (by simpa using h.2)
def VR.toTuple{a b:LV}(h:VRs φ a b):VR φ (.tuple a.toArray) (.tuple b.toArray):= .tuple (by simpa using h.1) (by simpa using h.2)
def VR.na0(h:na0 v=true):VR φ v v:=by
 unfold Ve.na0 at h;split at h
 .exact .bool _
 .exact .int _ _
 .exact .string _
 .exact .nilptr
 .exact .nilslice
 .exact .nilmap
 .exact .nilFunc
 .exact .nilIface
 next f a c=>simp only[gk,Array.isEmpty_iff]at h;obtain⟨rfl,rfl⟩:=h;exact .func _ rfl (fun i x y p=>by simp at p) rfl (fun i x y p=>by simp at p)
 .cases h
def VR.na1(h:na1 v=true):VR φ v v:=by
 unfold Ve.na1 at h;split at h
 .refine .agg rfl fun i x y p q=>?_;rw[p]at q;cases q;exact VR.na0 (aaB.1 h x (mG p))
 .exact .iface _ (VR.na0 h)
 .exact VR.na0 h
def VR.na(h:N8 v=true):VR φ v v:=by
 unfold N8 at h;split at h
 .refine .tuple rfl fun i x y p q=>?_;rw[p]at q;cases q;exact VR.na1 (aaB.1 h x (mG p))
 .exact VR.na1 h
def VR.undef'(φ:List Loc):VR φ undef undef:=VR.na (by rfl)
def VR.eq_na0(h:VR φ v v')(u:Ve.na0 v=true):v'=v:=by
 cases h<;>first|rfl|(simp [Ve.na0]at u;done)|skip
 case func f a a' c z D h E I=>
  simp only[Ve.na0,gk,Array.isEmpty_iff]at u;obtain⟨rfl,rfl⟩:=u;have:a'= #[]:=acv (by simpa using D.symm);have:z= #[]:=acv (by simpa using E.symm)
  subst_vars;rfl
 case lost=>cases u
def qG{P:aet->Bool}(E:∀v v',VR φ v v'->P v=true->v'=v) {a b:LV} (h:VRs φ a b) (u:a.all P=true):b=a:=by
 induction a generalizing b with
 |nil=>exact h.of_nil
 |cons x xs I=>
  obtain⟨y,J,rfl,z,D⟩:=h.of_cons;simp only[aaE,gk]at u;rw[E _ _ z u.1,I D u.2]
def VR.eq_na1(h:VR φ v v')(z:Ve.na1 v=true):v'=v:=by
 by_cases D:∃a,v= .agg a
 .obtain⟨a,rfl⟩:=D;cases h with
  |agg I h=>
   rename_i a';have:=qG (fun _ _=>VR.eq_na0) ⟨I,h⟩ z;rw[aaC.1 this]
 .by_cases E:∃t u,v= .iface t u
  .obtain⟨t,u,rfl⟩:=E;cases h with
   |iface _ h=>rw[VR.eq_na0 h z]
  .refine VR.eq_na0 h ?_;unfold Ve.na1 at z;split at z
   .exact absurd ⟨_,rfl⟩ D
   .exact absurd ⟨_,_,rfl⟩ E
   .exact z
def VR.eq_na(h:VR φ v v')(u:N8 v=true):v'=v:=by
 by_cases z:∃a,v= .tuple a
 .obtain⟨a,rfl⟩:=z;cases h with
  |tuple D h=>
   have:=qG (fun _ _=>VR.eq_na1) ⟨D,h⟩ u;rw[aaC.1 this]
  |lost=>cases u
 .refine VR.eq_na1 h ?_;unfold N8 at u;split at u
  .exact absurd ⟨_,rfl⟩ z
  .exact u
def VR.cells(h:VR φ v v')(D:v.cells.toList.all oC=true):VRs φ v.cells.toList v'.cells.toList:=by
 cases h with
 |agg u h=>exact⟨u,h⟩
 |bool b=>exact .cons (.bool b) (.nil φ)
 |int k n=>exact .cons (.int k n) (.nil φ)
 |string s=>exact .cons (.string s) (.nil φ)
 |nilptr=>exact .cons .nilptr (.nil φ)
 |ptr h=>exact .cons (.ptr h) (.nil φ)
 |nilslice=>exact .cons .nilslice (.nil φ)
 |slice0=>exact .cons .slice0 (.nil φ)
 |exact h=>exact .cons (.exact h) (.nil φ)
 |slice h I z=>exact .cons (.slice h I z) (.nil φ)
 |nilmap=>exact .cons .nilmap (.nil φ)
 |map h=>exact .cons (.map h) (.nil φ)
 |nilFunc=>exact .cons .nilFunc (.nil φ)
 |func f u h z E=>exact .cons (.func f u h z E) (.nil φ)
 |nilIface=>exact .cons .nilIface (.nil φ)
 |iface t h=>exact .cons (.iface t h) (.nil φ)
 |tuple u h=>exact .cons (.tuple u h) (.nil φ)
 |lost=>cases D
def VR.oneCell(h:VR φ v v')(u:v.oneCell'=true):v'.oneCell'=v.oneCell':=by
 cases h<;>first|rfl|cases u
structure Bel(base:Nat->Prop)(w w':World):Prop where
 os:w'.os=w.os
 tape:w'.tape=w.tape
 output:w'.output=w.output
 size:w.heap.size<=w'.heap.size
 block:∀k,base k->w'.heap[k]?=w.heap[k]?
def Bel.refl(base:Nat->Prop)(w:World):Bel base w w:=⟨rfl,rfl,rfl,lR,fun _ _=>rfl⟩
def Bel.drew{a w:World}(h:Bel base a w):Bel base a w.drew:=⟨h.os,h.tape,h.output,h.size,h.block⟩
def Bel.alloc{base:Nat->Prop}{a w:World}(h:Bel base a w)(z:∀k,base k->k<w.heap.size) (o:Obj):Bel base a (w.alloc o):=
 ⟨h.os,h.tape,h.output,abw h.size sM,fun k u=>by rw[abP _ _ _ (z k u)];exact h.block k u⟩
def Bel.below{n:Nat}{w u:World}(h:Bel (· <n) w u):Below n w u:=⟨h.os,h.tape,h.output,h.size,h.block⟩
def fC{base:Nat->Prop}{n:Nat}(h:∀k,base k->k<n):¬base n:=fun q=>Nat.lt_irrefl _ (h n q)
structure Bs where
 ro:Nat->Prop
 pr:Nat->Prop
 sub:∀k,ro k->pr k
def Bs.lt(n:Nat):Bs:=⟨(· <n),(· <n),fun _ h=>h⟩
def Blk.mine:Blk->Bool
 | .cells _ own _=>own
 | .dead=>false
 |_=>true
def BR(base:Bs)(φ:List Loc)(B:Blk)(l:Loc)(w:World):Prop:=
 match B with
 | .dead=>True
 | .cells c own sz=>l.sz=sz/\(∀x∈c,x.oneCell'=true)/\(∀(i:Nat) x,c[i]?=some x->∃y,w.cell? ⟨l.blk,l.off+i,none⟩=some y/\VR φ x y)/\
  (own=false->base.ro l.blk)/\
  (own=true->¬base.pr l.blk/\c.length<=l.cap/\∃cs t fz,w.heap[l.blk]?=some (.cells cs t fz)/\l.off+l.cap<=cs.size/\∀i,i<l.off+l.cap->w.frozen? ⟨l.blk,i,none⟩=false)
 | .map es=>¬base.pr l.blk/\∃es' cl,w.heap[l.blk]?=some (.map es' cl)/\es'.size=es.length/\
   ∀(i:Nat) k v m,es[i]?=some (k,v)->es'.toList[i]?=some m->VR φ k m.key/\VR φ v m.val
 | .iter s p=>¬base.pr l.blk/\l.off=0/\w.heap[l.blk]?=some (.stringIter s p)
structure WR(base:Bs)(w0:World)(φ:List Loc)(S:List Blk)(w:World):Prop where
 len:φ.length=S.length
 below:Bel base.pr w0 w
 size:∀k,base.pr k->k<w.heap.size
 blk:∀(b:Nat) B l,S[b]?=some B->φ[b]?=some l->BR base φ B l w
 sep:∀(b b':Nat) B B' l l',b≠b'->S[b]?=some B->S[b']?=some B'->B.mine=true->B'.mine=true->φ[b]?=some l->φ[b']?=some l'->l.blk≠l'.blk
def BR.mono{l:Loc}{w E:World}(S:Ext φ W)(u:E.heap[l.blk]?=w.heap[l.blk]?)(h:BR base φ B l w):BR base W B l E:=by
 have hc:∀i,E.cell? ⟨l.blk,i,none⟩=w.cell? ⟨l.blk,i,none⟩:=fun i=>World.cell?_of_block (w:=w) u;have hf:∀i,E.frozen? ⟨l.blk,i,none⟩=w.frozen? ⟨l.blk,i,none⟩:=fun i=>World.frozen?_of_block (w:=w) u;cases B with
 |dead=>trivial
 |cells c own sz=>
  obtain⟨h0,z,J,O,D⟩:=h;refine⟨h0,z,fun i x U=>?_,O,fun ho=>?_⟩
  .obtain⟨y,p,q⟩:=J i x U;exact⟨y,by rw[hc];exact p,q.mono S⟩
  .obtain⟨a,b,cs,t,fz,c1,c2,X⟩:=D ho;exact⟨a,b,cs,t,fz,by rw[u];exact c1,c2,fun i hi=>by rw[hf];exact X i hi⟩
 |map es=>
  obtain⟨a,I,cl,J,O,D⟩:=h;exact⟨a,I,cl,by rw[u];exact J,O,fun i k v m p q=>⟨(D i k v m p q).1.mono S,(D i k v m p q).2.mono S⟩⟩
 |iter s p=>exact⟨h.1,h.2.1,by rw[u];exact h.2.2⟩
def BR.lt{w:World}(h:BR base φ B l w)(u:B.mine=true):¬base.pr l.blk/\l.blk<w.heap.size:=by
 have key:∀o,w.heap[l.blk]?=some o->l.blk<w.heap.size:=fun o E=>(gA E).1;cases B with
 |dead=>cases u
 |cells c own sz=>
  simp only[Blk.mine]at u;obtain⟨a,b,cs,t,O,c1,_⟩:=h.2.2.2.2 u;exact⟨a,key _ c1⟩
 |map J=>obtain⟨a,z,I,D,_⟩:=h;exact⟨a,key _ D⟩
 |iter s p=>exact⟨h.1,key _ h.2.2⟩
def BR.below{w:World}(h:BR base φ (.cells c false sz) l w):base.pr l.blk:=base.sub _ (h.2.2.2.1 rfl)
def But(w w':World)(k:Option Nat):Prop:=w.heap.size<=w'.heap.size/\∀j,j<w.heap.size->k≠some j->w'.heap[j]?=w.heap[j]?
def Fr(φ:List Loc)(S:List Blk)(low:Nat)(w w':World):Prop:=
 ∀(b:Nat) B l,b<low->S[b]?=some B->B≠ .dead->φ[b]?=some l->w'.heap[l.blk]?=w.heap[l.blk]?
structure Cls(base:Bs)(w0:World)(φ:List Loc)(S:List Blk)(w w':World):Prop where
 wr:WR base w0 φ S w'
 same:∀(b:Nat) B l,S[b]?=some B->B≠ .dead->φ[b]?=some l->w'.heap[l.blk]?=w.heap[l.blk]?
def WR.cls{w:World}(h:WR base w0 φ S w):Cls base w0 φ S w w:=⟨h,fun _ _ _ _ _ _=>rfl⟩
def WR.loc{w:World}(h:WR base w0 φ S w){b:Nat}(u:S[b]?=some B):∃l,φ[b]?=some l/\BR base φ B l w:=by
 have z:b<φ.length:=by rw[h.len];exact(gS u).1
 exact⟨φ[b],by simp [z],h.blk b B _ u (by simp [z])⟩
def WR.same_heap{w u:World}(h:WR base w0 φ S w)(z:u.heap=w.heap)(E:u.os=w.os)(I:u.tape=w.tape)(J:u.output=w.output):WR base w0 φ S u:=
 ⟨h.len,⟨E.trans h.below.os,I.trans h.below.tape,J.trans h.below.output,by rw[z];exact h.below.size,fun k D=>by rw[z];exact h.below.block k D⟩,
  by rw[z];exact h.size,fun b B l p q=>(h.blk b B l p q).mono (Ext.refl φ) (by rw[z]),h.sep⟩
def WR.push{w I:World}(h:WR base w0 φ S w){B:Blk}{l:Loc}
  (hw:But w I none) (hb:Bel base.pr w0 I) (hl:B.mine=true->w.heap.size<=l.blk) (hB:BR base (φ++[l]) B l I):WR base w0 (φ++[l]) (S++[B]) I:=by
 have hx:Ext φ (φ++[l]):=Ext.snoc φ l;have old:∀(b:Nat) u z,S[b]?=some u->φ[b]?=some z->BR base (φ++[l]) u z I:=by
  intro b u z p q;have D:=h.blk b u z p q;by_cases hd:u= .dead
  .subst hd;trivial
  .refine D.mono hx ?_;by_cases J:u.mine=true
   .exact hw.2 _ (D.lt J).2 sM
   .cases u with
    |dead=>exact absurd rfl hd
    |cells c own sz=>
     have:own=false:=by simpa [Blk.mine] using J
     subst this;exact hw.2 _ (h.size _ D.below) sM
    |map es=>exact absurd rfl J
    |iter s p=>exact absurd rfl J
 have split:∀(b:Nat) u z,(S++[B])[b]?=some u->(φ++[l])[b]?=some z->(S[b]?=some u/\φ[b]?=some z)\/(b=S.length/\u=B/\z=l):=by
  intro b u z p q;by_cases E:b<S.length
  .left
   rw[xd E]at p;rw[xd (by rw[h.len];exact E)]at q;exact⟨p,q⟩
  .right
   have:b<(S++[B]).length:=(gS p).1;simp at this;have W:b=S.length:=oM;subst W;have h1:(φ++[l])[S.length]?=some l:=by rw[<-h.len];simp
   rw[h1]at q;simp at p q;exact⟨rfl,p.symm,q.symm⟩
 refine⟨by simp [h.len],hb,fun k hk=>aaF (h.size k hk) hw.1,fun b u z p q=>?_,fun b U B1 O l1 l2 X p1 p2 m1 m2 q1 q2=>?_⟩
 .rcases split b u z p q with⟨p,q⟩|⟨rfl,rfl,rfl⟩
  .exact old b u z p q
  .exact hB
 .rcases split b B1 l1 p1 q1 with⟨x1,y1⟩|⟨r1,r2,r3⟩<;>rcases split U O l2 p2 q2 with⟨x2,y2⟩|⟨s1,s2,s3⟩
  .exact h.sep b U B1 O l1 l2 X x1 x2 m1 m2 y1 y2
  .have:=((h.blk b B1 l1 x1 y1).lt m1).2;have:=hl (s2▸m2);rw[s3];omega
  .have:=((h.blk U O l2 x2 y2).lt m2).2;have:=hl (r2▸m1);rw[r3];omega
  .omega
def WR.put{w w':World}(h:WR base w0 φ S w){b:Nat}(O:S[b]?=some B)(X:φ[b]?=some l)(hm:B.mine=true)
  (hw:But w w' (some l.blk)) (U:Bel base.pr w0 w') (hB:BR base φ I l w'):WR base w0 φ (S.set b I) w':=by
 have J:∀(c:Nat) C,(S.set b I)[c]?=some C->(c=b/\C=I)\/(c≠b/\S[c]?=some C):=by
  intro c C p;rw[abb]at p;by_cases u:b=c
  .subst u;rw[cA rfl,cA (gS O).1]at p;exact .inl ⟨rfl,by simpa using p.symm⟩
  .rw[bt u]at p;exact .inr ⟨fun e=>u e.symm,p⟩
 have a4:=(h.blk b B l O X).lt hm;refine⟨by simp [h.len],U,fun k hk=>aaF (h.size k hk) hw.1,fun c C lc p q=>?_,fun c c' C C' lc W a3 p p' m m' q q'=>?_⟩
 .rcases J c C p with⟨rfl,rfl⟩|⟨u,p⟩
  .rw[X]at q;cases q;exact hB
  .have E:=h.blk c C lc p q;by_cases hd:C= .dead
   .subst hd;trivial
   .refine E.mono (Ext.refl φ) ?_;by_cases z:C.mine=true
    .exact hw.2 _ (E.lt z).2 (by simp only[ne_eq,aaa];exact h.sep b c B C l lc (fun e=>u e.symm) O p hm z X q)
    .cases C with
     |dead=>exact absurd rfl hd
     |cells cc own sz=>
      have:own=false:=by simpa [Blk.mine] using z
      subst this;have:=E.below;exact hw.2 _ (h.size _ this) (by simp only[ne_eq,aaa];exact fun q=>((h.blk b B l O X).lt hm).1 (q▸this))
     |map es=>exact absurd rfl z
     |iter s p=>exact absurd rfl z
 .have key:∀(c:Nat) C lc,(S.set b I)[c]?=some C->C.mine=true->φ[c]?=some lc->∃D,S[c]?=some D/\D.mine=true:=by
   intro c C lc p m q;rcases J c C p with⟨rfl,rfl⟩|⟨_,p⟩
   .exact⟨B,O,hm⟩
   .exact⟨C,p,m⟩
  obtain⟨D,d1,d2⟩:=key c C lc p m q;obtain⟨D',a1,a2⟩:=key c' C' W p' m' q';exact h.sep c c' D D' lc W a3 d1 a1 d2 a2 q q'
def WR.kill{w:World}(h:WR base w0 φ S w)(b:Nat):WR base w0 φ (S.set b .dead) w:=by
 have u:∀(c:Nat) C,(S.set b .dead)[c]?=some C->C= .dead\/(c≠b/\S[c]?=some C):=by
  intro c C p;rw[abb]at p;by_cases z:b=c
  .subst z;rw[cA rfl]at p;split at p
   .exact .inl (by simpa using p.symm)
   .cases p
  .rw[bt z]at p;exact .inr ⟨fun e=>z e.symm,p⟩
 refine⟨by simp [h.len],h.below,h.size,fun c C lc p q=>?_,fun c O C J lc E D p I m U q W=>?_⟩
 .rcases u c C p with rfl|⟨_,p⟩
  .trivial
  .exact h.blk c C lc p q
 .rcases u c C p with rfl|⟨_,p⟩
  .cases m
  .rcases u O J I with rfl|⟨_,I⟩
   .cases U
   .exact h.sep c O C J lc E D p I m U q W
def WR.cell{w:World}(h:WR base w0 φ S w){b:Nat}{own:Bool}(J:S[b]?=some (.cells c own sz)):
  ∃l U,φ[b]?=some l/\VRs φ c U/\(∀I,Cls base w0 φ S w I->∀(i:Nat) y,U[i]?=some y->I.cell? ⟨l.blk,l.off+i,none⟩=some y)/\l.sz=sz:=by
 obtain⟨l,O,u⟩:=h.loc J;refine⟨l,c.zipIdx.map fun(_,i)=>(w.cell? ⟨l.blk,l.off+i,none⟩).getD undef,O,⟨by simp,fun i x y p q=>?_⟩,fun I W i y q=>?_,u.1⟩
 .obtain⟨z,D,X⟩:=u.2.2.1 i x p;simp [p,D]at q;subst q;exact X
 .simp only[aaS,List.getElem?_zipIdx,Option.map_map,aaH]at q;cases E:c[i]? with
  |none=>simp [E]at q
  |some x=>
   obtain⟨z,D,_⟩:=u.2.2.1 i x E;simp [E,D]at q;subst q;rw[World.cell?_of_block (w:=w) (W.same b _ l J sM O)];exact D
section
variable{P:Program}
def C4{t:TypeId}{s:Nat}(h:D3 P t=some s)(w:World):(sizeOf t).run P w= .ok s w:=by
 unfold D3 at h;cases u:P.info? t with
 |none=>simp [u]at h
 |some i=>simp [u]at h;simp [sizeOf,typeInfo,u,h]
def R7{t:TypeId}{b:Bool}(h:cY P t=some b)(w:World):(isAgg t).run P w= .ok b w:=by
 unfold cY at h;cases u:P.underlying t with
 |none=>simp [u]at h
 |some d=>cases d<;>simp_all [isAgg,aae u]
def bO{t:TypeId}(h:jk P t=some z)(w:World):(zeroValue t).run P w= .ok z w/\na1 z=true:=by
 unfold jk at h;cases u:P.info? t with
 |none=>simp [u]at h
 |some i=>
  cases D:i.zero with
  |none=>simp [u,D]at h
  |some I=>
   simp [u,D]at h;obtain⟨E,rfl⟩:=h;exact⟨by simp [zeroValue,typeInfo,u,D],E⟩
def U9{t:TypeId}(h:N3 P t=some z)(w:World):∃I,(zeroValue t).run P w= .ok I w/\I.cells.toList=z/\z.all na0=true/\D3 P t=some z.length:=by
 unfold N3 at h;cases u:P.info? t with
 |none=>simp [u]at h
 |some i=>
  cases E:i.zero with
  |none=>simp [u,E]at h
  |some J=>
   simp only[u,E,aas]at h;split at h
   next D=>cases h;simp only[gk,acK]at D;exact⟨J,by simp [zeroValue,typeInfo,u,E],rfl,D.1,by simpa using D.2⟩
   .cases h
def VRs.na0{φ:List Loc}{l:LV}(h:l.all na0=true):VRs φ l l:=
 ⟨rfl,fun i x y p q=>by rw[p]at q;cases q;exact VR.na0 (aaB.1 h x (mG p))⟩
end
def kH(P:Program)(base:Bs)(w0:World)(φ:List Loc)(S:List Blk)(w:World)(s:Sem aet)(v:aet):Prop:=
 ∃v',VR φ v v'/\∀w',Cls base w0 φ S w w'->s.run P w'= .ok v' w'
section
variable{P:Program}{base:Bs}{w0:World}{φ:List Loc}{S:List Blk}{w:World}
def kH.const{s:Sem aet}(h:VR φ v v')(z:∀u,s.run P u= .ok v' u):kH P base w0 φ S w s v:=⟨v',h,fun u _=>z u⟩
def nj{H:d7}(D:WR base w0 φ H.bs w){b:Nat}{own:Bool}(I:H.g b=some (.cells c own sz))(J:φ[b]?=some l):
  ∃u,VRs φ c u/\∀z,Cls base w0 φ H.bs w z->∀(i:Nat) y,u[i]?=some y->z.cell? ⟨l.blk,l.off+i,none⟩=some y:=by
 obtain⟨U,u,h,O,E,_⟩:=D.cell I;rw[J]at h;cases h;exact⟨u,O,E⟩
def uu{I:World}{b o:Nat}{D:LV}(h:∀(i:Nat) y,D[i]?=some y->I.cell? ⟨b,o+i,none⟩=some y) (n:Nat) (k:Nat) (J:n+k<=D.length):
  (loadCells ⟨b,o+n,none⟩ k).run P I= .ok ((D.drop n).take k).toArray I:=by
 have z:((D.drop n).take k).length=k:=by simp;omega
 have:=run_loadCells_list (P:=P) I ⟨b,o+n,none⟩ ((D.drop n).take k) (fun j v E=>by
  have u:(⟨b,o+n,none⟩:Addr).add j=⟨b,o+n+j,none⟩:=by unfold Addr.add;split<;>simp_all
  rw[u,aa5];refine h _ _ ?_;rw[aaO]at E;split at E
  .rwa [aaA]at E
  .cases E)
 rwa [z]at this
def yf{t:TypeId}{H:d7}{a a' v:aet}(O:WR base w0 φ H.bs w)(h:ld P t H a=some v)(U:VR φ a a'):kH P base w0 φ H.bs w (Instr.loadAt t a') v:=by
 unfold ld at h;split at h
 rotate_left
 .cases h
 rename_i b o;split at h
 rotate_left
 .cases h
 rename_i c own sz W;cases U with
 |ptr X=>
  rename_i l;obtain⟨ys,E,J⟩:=nj O W X;split at h
  .rename_i u;split at h
   rotate_left
   .cases h
   rename_i s hs;split at h
   rotate_left
   .cases h
   rename_i D;cases h;refine⟨.agg ((ys.drop o).take s).toArray,VR.toAgg ((E.drop o).take s),fun I z=>?_⟩;simp only[Instr.loadAt,Instr.sureAddr,loadVar,aac,aai,kB,R7 u,aab,C4 hs,
    uu (J I z) o s (by rw[<-E.1];exact D)]
  next u=>obtain⟨y,hy,hr⟩:=E.g h;refine⟨y,hr,fun I z=>?_⟩;simp only[Instr.loadAt,Instr.sureAddr,loadVar,aac,aai,kB,R7 u,bF,run_load,J I z o y hy]
  .cases h
def iH{b:Bool}(h:B8 (u++I) xs z=some b):
  ∃D E,B8 u (xs.take u.length) (z.take u.length)=some D/\B8 I (xs.drop u.length) (z.drop u.length)=some E/\b=(D&&E):=by
 induction u generalizing xs z b with
 |nil=>exact⟨true,b,by simp [B8],by simpa using h,by simp⟩
 |cons k u X=>
  cases xs with
  |nil=>simp [B8]at h
  |cons x xs=>
   cases z with
   |nil=>simp [B8]at h
   |cons y z=>
    simp only[aax,B8]at h;split at h
    next a b' U W=>cases h;obtain⟨D,E,J,O,rfl⟩:=X W;exact⟨a&&D,E,by simp [B8,U,J],by simpa using O,by rw[Bool.and_assoc]⟩
    .cases h
def ez{b:Bool}(h:B8 z xs u=some b):xs.length=z.length/\u.length=z.length:=by
 induction z generalizing xs u b with
 |nil=>cases xs<;>cases u<;>simp_all [B8]
 |cons k z E=>
  cases xs with
  |nil=>simp [B8]at h
  |cons x xs=>
   cases u with
   |nil=>simp [B8]at h
   |cons y u=>
    simp only[B8]at h;split at h
    next D=>have:=E D;simp [this.1,this.2]
    .cases h
def iO{t:TypeId}(h:aq P (d+1) t=some O)(J:cY P t=some false):
  ∃k,O=[k]/\∀D E I b(w:World),P7 k E I=some b->(Op.equalIn (D+1) t E I).run P w= .ok b w:=by
 unfold aq at h;unfold cY at J;split at h
 .rename_i z;cases h;refine⟨_,rfl,fun D E I b w u=>?_⟩;unfold P7 at u;split at u<;>first|(simp_all;done)|skip
  cases u;exact run_equalIn_bool' w D t _ _ z
 .rename_i k z;cases h;refine⟨_,rfl,fun D E I b w u=>?_⟩;unfold P7 at u;split at u<;>first|(simp_all;done)|skip
  split at u
  next U=>subst U;cases u;exact run_equalIn_int w D t _ k _ _ z
  .cases u
 .rename_i z;cases h;refine⟨_,rfl,fun D E I b w u=>?_⟩;unfold P7 at u;split at u<;>first|(simp_all;done)|skip
  cases u;rw[run_equalIn_string w D t _ _ z,ac0]
 next z=>simp [z]at J
 .cases h
def xM:∀{t:TypeId}{ks:List V1},aq P d t=some ks->cY P t=some true->
  ∀D,d<=D->∀(xs E:Array aet) b(w:World),B8 ks xs.toList E.toList=some b->(Op.equalIn D t (.agg xs) (.agg E)).run P w= .ok b w:=by
 induction d with
 |zero=>intro t ks h;simp [aq]at h
 |succ d ih=>
  intro t ks h ha D hD xs E b w hc;obtain⟨D,rfl⟩:∃m,D=m+1:=⟨D-1,oM⟩
  unfold aq at h;unfold cY at ha;split at h<;>first|(rename_i hu;simp [hu]at ha;done)|(rename_i k hu;simp [hu]at ha;done)|(cases h;done)|skip
  rename_i fs hu;split at h
  .cases h
  rename_i a5;have hf:P.underlying t=some (.struct (P.fieldsOf t)):=by simp [Program.fieldsOf,hu]
  have a3:P.fieldsOf t=fs:=by simp [Program.fieldsOf,hu]
  rw[run_equalIn_struct w D t xs E hf (by simpa using a5),a3];have key:∀(fl:List Field)(n:Nat)(r:List V1)(b:Bool),km P (aq P d) fl n=some r->B8 r (xs.toList.drop n) (E.toList.drop n)=some b->
    (Op.eqFields D xs E fl).run P w= .ok b w:=by
   intro fl;induction fl with
   |nil=>intro n r b u h2;simp [km]at u;subst u;have:=ez h2;cases hx:xs.toList.drop n<;>cases hy:E.toList.drop n<;>simp_all [B8,Op.eqFields]
   |cons f fl a9=>
    intro n r b u h2;simp only[km]at u;split at u
    rotate_left
    .cases u
    rename_i hn;split at u
    rotate_left
    .cases u
    rename_i m W;split at u
    rotate_left
    .cases u
    rename_i hs;simp only[ZZ]at u;obtain⟨r',a4,rfl⟩:=u;obtain⟨b1,b2,U,e2,rfl⟩:=iH h2;rw[abm]at e2;rw[abm]at e2;have a1:=a9 _ _ _ a4 e2;have J:=ez U;have O:∃a c,(part f.type xs f.offset).run P w= .ok a w/\(part f.type E f.offset).run P w= .ok c w/\(Op.equalIn D f.type a c).run P w= .ok b1 w:=by
     have I:∃d',d=d'+1:=by cases d with
      |zero=>simp [aq]at W
      |succ d'=>exact⟨d',rfl⟩
     obtain⟨d',rfl⟩:=I;have a2:∃q,cY P f.type=some q:=by
      unfold cY;unfold aq at W;split at W<;>rename_i a6<;>first|exact⟨_,by rw[a6]⟩|cases W
     obtain⟨q,X⟩:=a2;cases q with
     |true=>
      refine⟨.agg (xs.extract f.offset (f.offset+m.length)),.agg (E.extract f.offset (f.offset+m.length)),by simp [part,R7 X,C4 hs],by simp [part,R7 X,C4 hs],?_⟩;refine ih W X D oM _ _ _ w ?_;rw[hn.2]
      simpa [List.take_drop] using U
     |false=>
      obtain⟨k,rfl,hk⟩:=iO W X;obtain⟨D',rfl⟩:∃z,D=z+1:=⟨D-1,oM⟩
      simp only[A1,aaG,aaH]at U J;obtain⟨x,hx⟩:∃x,(xs.toList.drop n).take 1=[x]:=aa2.1 J.1;obtain⟨y,hy⟩:∃y,(E.toList.drop n).take 1=[y]:=aa2.1 J.2;rw[hx,hy]at U;have a7:xs[f.offset]?=some x:=by
       have:((xs.toList.drop n).take 1)[0]?=some x:=by rw[hx];rfl
       rw[hn.2];simpa [aaO,aaA] using this
      have a8:E[f.offset]?=some y:=by
       have:((E.toList.drop n).take 1)[0]?=some y:=by rw[hy];rfl
       rw[hn.2];simpa [aaO,aaA] using this
      refine⟨x,y,by simp [part,R7 X,a7],by simp [part,R7 X,a8],hk D' x y b1 w ?_⟩;unfold B8 at U;split at U<;>simp_all [B8]
    obtain⟨a,c,s1,s2,s3⟩:=O;simp only[Op.eqFields,hn.1,ne_eq,adJ,aab,aac,s1,s2,s3,kB];cases b1
    .simp
    .simpa using a1
  exact key fs.toList 0 ks b h (by simpa using hc)
def V0{t:TypeId}(h:wl P t=some u):P.eqGuardType P.depth t=false/\aq P 9 t=some u:=by
 unfold wl at h;split at h
 .cases h
 next z=>exact⟨by simpa using z,h⟩
def mz{b:Bool}(h:P7 k x y=some b)(D:VR φ x u)(E:VR φ y z):u=x/\z=y:=by
 unfold P7 at h;split at h<;>first|(cases h;done)|(cases D;cases E;exact⟨rfl,rfl⟩)
def kh{b:Bool}(h:B8 D xs u=some b)(E:VRs φ xs xs')(I:VRs φ u z):xs'=xs/\z=u:=by
 induction D generalizing xs u xs' z b with
 |nil=>cases xs<;>cases u<;>simp [B8]at h;exact⟨E.of_nil,I.of_nil⟩
 |cons k D U=>
  cases xs with
  |nil=>simp [B8]at h
  |cons x xs=>
   cases u with
   |nil=>simp [B8]at h
   |cons y u=>
    simp only[B8]at h;split at h
    next a c J O=>obtain⟨x2,a1,rfl,p1,p2⟩:=E.of_cons;obtain⟨y2,a2,rfl,W,X⟩:=I.of_cons;obtain⟨rfl,rfl⟩:=mz J p1 W;obtain⟨rfl,rfl⟩:=U O p2 X;exact⟨rfl,rfl⟩
    .cases h
def Y6{t e:TypeId}(h:F8 P t=some e):P.underlying t=some (.slice e):=by
 unfold F8 at h;split at h
 .cases h;assumption
 .cases h
def uD{t k e:TypeId}(h:wq P t=some (k,e)):P.underlying t=some (.map k e):=by
 unfold wq at h;split at h
 .cases h;assumption
 .cases h
def Lb{t e:TypeId}(h:P.underlying t=some (.pointer e))(b:Option Addr)(w:World):(Op.equalIn (d+1) t (.pointer none) (.pointer b)).run P w= .ok b.isNone w:=by
 simp [Op.equalIn,aae h]
def KZ{t e:TypeId}(h:P.underlying t=some (.pointer e))(a:Addr)(w:World):(Op.equalIn (d+1) t (.pointer (some a)) (.pointer none)).run P w= .ok false w:=by
 simp [Op.equalIn,aae h]
def Lc{t e:TypeId}(h:P.underlying t=some (.slice e))(n c m k:Nat)(b:Option Addr)(w:World):(Op.equalIn (d+1) t (.slice none n c) (.slice b m k)).run P w= .ok b.isNone w:=by
 simp [Op.equalIn,aae h]
def La{t e:TypeId}(h:P.underlying t=some (.slice e))(a:Addr)(n c m k:Nat)(w:World):(Op.equalIn (d+1) t (.slice (some a) n c) (.slice none m k)).run P w= .ok false w:=by
 simp [Op.equalIn,aae h]
def WB{t k e:TypeId}(h:P.underlying t=some (.map k e))(b:Option Nat)(w:World):(Op.equalIn (d+1) t (.map none) (.map b)).run P w= .ok b.isNone w:=by
 simp [Op.equalIn,aae h]
def WC{t k e:TypeId}(h:P.underlying t=some (.map k e))(a:Nat)(w:World):(Op.equalIn (d+1) t (.map (some a)) (.map none)).run P w= .ok false w:=by
 simp [Op.equalIn,aae h]
def oU{t:TypeId}{b:Bool}{w:World}(D:∀op z u,eqGuard op t z u x y=pure ()) (O:binOp .eql t x y=(do pure (.bool (<-Op.equal t x y)))) (U:binOp .neq t x y=(do pure (.bool (!(<-Op.equal t x y)))))
  (h:(Op.equalIn (9999+1) t x y).run P w= .ok b w) (E I:Operand):
  (do eqGuard .eql t E I x y;binOp .eql t x y).run P w= .ok (.bool b) w/\(do eqGuard .neq t E I x y;binOp .neq t x y).run P w= .ok (.bool !b) w:=by
 have J:(Op.equal t x y).run P w= .ok b w:=h;rw[D,D,O,U];simp only[aac,aai,kB,J,adT]
def xA{t:TypeId}{b:Bool}(h:eqA P t x y=some b)(z:VR φ x X)(D:VR φ y y')(I J:Operand)(w:World):
  (do eqGuard .eql t I J X y';binOp .eql t X y').run P w= .ok (.bool b) w/\(do eqGuard .neq t I J X y';binOp .neq t X y').run P w= .ok (.bool !b) w:=by
 unfold eqA at h;split at h
 .split at h
  rotate_left
  .cases h
  rename_i W;cases h;cases z;cases D;have u:P.underlying t=some .bool:=by unfold zd at W;split at W<;>first|assumption|cases W
  simp only[eqGuard_at_bool,aac,aai,kB,run_eql_bool w t _ _ u,run_neq_bool w t _ _ u,adT]
 .split at h
  rotate_left
  .cases h
  rename_i k hk;subst hk;cases h;cases z;cases D;simp [abh,binOp,Op.intCmp,bne]
 .cases h;cases z;cases D;simp [acm,binOp,Op.stringOp,ac0]
 .cases z;split at h
  rotate_left
  .cases h
  rename_i e u;cases h;cases D<;>exact oU (fun _ _ _=>eqGuard_at_pointer ..) rfl rfl (Lb u _ w) I J
 .cases z;cases D;split at h
  rotate_left
  .cases h
  rename_i e u;cases h;exact oU (fun _ _ _=>eqGuard_at_pointer ..) rfl rfl (KZ u _ w) I J
 .cases z;split at h
  rotate_left
  .cases h
  rename_i u;obtain⟨e,O⟩:=abV.1 u;cases h;cases D<;>exact oU (fun _ _ _=>eqGuard_at_slice ..) rfl rfl (Lc (Y6 O) _ _ _ _ _ w) I J
 .split at h
  rotate_left
  .cases h
  rename_i u;obtain⟨e,O⟩:=abV.1 u;cases h;cases D;cases z<;>exact oU (fun _ _ _=>eqGuard_at_slice ..) rfl rfl (La (Y6 O) _ _ _ _ _ w) I J
 .cases z;split at h
  rotate_left
  .cases h
  rename_i u;obtain⟨⟨k,e⟩,O⟩:=abV.1 u;cases h;cases D<;>exact oU (fun _ _ _=>eqGuard_at_map ..) rfl rfl (WB (uD O) _ w) I J
 .split at h
  rotate_left
  .cases h
  rename_i u;obtain⟨⟨k,e⟩,O⟩:=abV.1 u;cases h;cases D;cases z<;>exact oU (fun _ _ _=>eqGuard_at_map ..) rfl rfl (WC (uD O) _ w) I J
 .split at h
  rotate_left
  .cases h
  rename_i ks E;cases z with
  |agg ha a1=>
   cases D with
   |agg W a2=>
    rename_i xs xs' ys a3;obtain⟨e1,e2⟩:=kh h ⟨ha,a1⟩ ⟨W,a2⟩;obtain rfl:=aaC.1 e1;obtain rfl:=aaC.1 e2;unfold rI at E;split at E
    rotate_left
    .cases E
    rename_i U;obtain⟨hg,hf⟩:=V0 E;simp only[acK]at U;have hr:=fun w=>xM hf U 10000 oM _ _ b w h;simp only[aac,run_eqGuard_agg w _ t I J _ _ hg,kB,run_eql_struct,run_neq_struct,hr,adT]
 .cases h
def DD{op:BinOp}{t:TypeId}(h:I3 P op t x y=some v)(z:VR φ x I)(D:VR φ y O)(J U:Operand):
  ∃v',VR φ v v'/\∀w,(do eqGuard op t J U I O;binOp op t I O).run P w= .ok v' w:=by
 unfold I3 at h;split at h
 .simp only[ZZ]at h;obtain⟨b,u,rfl⟩:=h;exact⟨_,.bool b,fun w=>(xA u z D J U w).1⟩
 .simp only[ZZ]at h;obtain⟨b,u,rfl⟩:=h;exact⟨_,.bool !b,fun w=>(xA u z D J U w).2⟩
 .split at h
  .cases z;cases D;split at h
   next u=>cases h;exact⟨_,.int _ _,fun w=>by simp [abh,binOp,Op.shift];intro;omega⟩
   .cases h
  .cases h
 .split at h
  .cases z;cases D;split at h
   next u=>cases h;exact⟨_,.int _ _,fun w=>by simp [abh,binOp,Op.shift];intro;omega⟩
   .cases h
  .cases h
 .rename_i n1 n2 n3 n4;split at h
  .rename_i k a k' b;cases z;cases D;split at h
   rotate_left
   .cases h
   rename_i W;subst W;split at h
   case h_1=>cases h;exact⟨_,.int _ _,fun w=>by simp [abh,binOp,Op.intArith]⟩
   case h_2=>cases h;exact⟨_,.int _ _,fun w=>by simp [abh,binOp,Op.intArith]⟩
   case h_3=>cases h;exact⟨_,.int _ _,fun w=>by simp [abh,binOp,Op.intArith]⟩
   case h_4=>
    split at h
    .cases h
    next u=>cases h;exact⟨_,.int _ _,fun w=>by simp [abh,binOp,Op.intDiv,u]⟩
   case h_5=>
    split at h
    .cases h
    next u=>cases h;exact⟨_,.int _ _,fun w=>by simp [abh,binOp,Op.intDiv,u]⟩
   case h_6=>cases h;exact⟨_,.int _ _,fun w=>by simp [abh,binOp,Op.intBits,Go.bits]⟩
   case h_7=>cases h;exact⟨_,.int _ _,fun w=>by simp [abh,binOp,Op.intBits,Go.bits]⟩
   case h_8=>cases h;exact⟨_,.int _ _,fun w=>by simp [abh,binOp,Op.intBits,Go.bits]⟩
   case h_9=>cases h;exact⟨_,.int _ _,fun w=>by simp [abh,binOp,Op.intBits,Go.bits]⟩
   case h_10=>cases h;exact⟨_,.bool _,fun w=>by simp [abh,binOp,Op.intCmp]⟩
   case h_11=>cases h;exact⟨_,.bool _,fun w=>by simp [abh,binOp,Op.intCmp]⟩
   case h_12=>cases h;exact⟨_,.bool _,fun w=>by simp [abh,binOp,Op.intCmp]⟩
   case h_13=>cases h;exact⟨_,.bool _,fun w=>by simp [abh,binOp,Op.intCmp]⟩
   case h_14=>cases h
  .rename_i a b;cases z;cases D;split at h
   case h_1=>
    split at h
    .rename_i X;cases h;refine⟨_,.string _,fun w=>?_⟩;have E:¬((a.size+b.size:Nat):Int)>IntKind.i64.max:=by simp;omega
     simp only[acm,binOp,Op.stringOp,aac,aai,kB,bt E]
    .cases h
   case h_2=>cases h;exact⟨_,.bool _,fun w=>by simp [acm,binOp,Op.stringOp]⟩
   case h_3=>cases h;exact⟨_,.bool _,fun w=>by simp [acm,binOp,Op.stringOp]⟩
   case h_4=>cases h;exact⟨_,.bool _,fun w=>by simp [acm,binOp,Op.stringOp]⟩
   case h_5=>cases h;exact⟨_,.bool _,fun w=>by simp [acm,binOp,Op.stringOp]⟩
   case h_6=>cases h
  .cases h
def JY{op:UnOp}(h:unA op x=some v)(u:VR φ x z):∃v',VR φ v v'/\∀w,(Op.unary op z).run P w= .ok v' w:=by
 unfold unA at h;split at h
 .cases h;cases u;exact⟨_,.int _ _,fun w=>by simp [Op.unary,Op.intArith]⟩
 .cases h;cases u;exact⟨_,.bool _,fun w=>by simp [Op.unary]⟩
 .cases h;cases u;exact⟨_,.int _ _,fun w=>by simp [Op.unary,Op.intBits,Go.bits]⟩
 .cases h
def Addr.add_none(b o n:Nat):(⟨b,o,none⟩:Addr).add n=⟨b,o+n,none⟩:=by unfold Addr.add;split<;>simp_all
def oH{t:TypeId}(h:X9 P t x X=some v)(W:VR φ x x')(U:VR φ X D):∃v',VR φ v v'/\∀w,(Instr.indexAt t x' D).run P w= .ok v' w:=by
 unfold X9 at h;split at h
 .rename_i e b o n c k i J;cases U;split at h
  rotate_left
  .cases h
  rename_i size I;split at h
  rotate_left
  .cases h
  rename_i E;cases h;have z:∀(l:Loc) O,φ[b]?=some l->∃v',VR φ (.pointer (some ⟨b,o+i.toNat*size,none⟩)) v'/\∀w,(Instr.indexAt t (.slice (some ⟨l.blk,l.off+o,none⟩) n O) (.int k i)).run P w= .ok v' w:=by
   intro l O u;refine⟨_,.ptr u,fun w=>?_⟩;simp only[Instr.indexAt,asIntOf,aac,aai,kB,aae J,E,adT,aab,C4 I,Addr.add_none,aa5]
  cases W with
  |slice0=>exfalso;omega
  |exact u=>exact z _ _ u
  |slice u=>exact z _ _ u
 .rename_i n e b o k i J;cases U;split at h
  rotate_left
  .cases h
  rename_i size I;split at h
  rotate_left
  .cases h
  rename_i E;cases h;cases W with
  |ptr u=>
   refine⟨_,.ptr u,fun w=>?_⟩;simp only[Instr.indexAt,Instr.sureAddr,asIntOf,aac,aai,kB,aae J,E,adT,aab,C4 I,Addr.add_none,aa5]
 .cases h
def IA{t:TypeId}(h:jT P t cs u=some v)(D:VRs φ cs cs'):∃v',VR φ v v'/\∀w,(part t cs'.toArray u).run P w= .ok v' w:=by
 unfold jT at h;split at h
 next s z E=>cases h;refine⟨_,VR.toAgg ((D.drop u).take s),fun w=>?_⟩;simp [part,R7 z,C4 E]
 next z=>obtain⟨y,J,I⟩:=D.g h;refine⟨y,I,fun w=>?_⟩;simp only[part,aac,R7 ‹_›,kB,bF,ab5,J,aai]
 .cases h
def xG{t:TypeId}(h:mD P t x i=some v)(U:VR φ x z):∃v',VR φ v v'/\∀w,(Instr.field t z i).run P w= .ok v' w:=by
 unfold mD wo at h;split at h
 rotate_left
 .cases h
 rename_i W ft cs u;split at u
 rotate_left
 .cases u
 rename_i X O;simp only[ZZ,aah]at u;obtain⟨f,u,rfl,rfl⟩:=u;cases U with
 |agg I J=>
  obtain⟨v',D,E⟩:=IA (cs':=_) h ⟨I,J⟩;exact⟨v',D,fun w=>by simpa [Instr.field,aae O,u,asAgg] using E w⟩
def oE{t:TypeId}(h:bZ P t x i=some v)(O:VR φ x D):∃v',VR φ v v'/\∀w,(Instr.fieldAt t D i).run P w= .ok v' w:=by
 unfold bZ wo at h;split at h
 rotate_left
 .cases h
 rename_i U X b o u;split at u
 rotate_left
 .cases u
 rename_i W J;simp only[ZZ,aah]at u;obtain⟨f,u,rfl,rfl⟩:=u;split at h
 rotate_left
 .cases h
 rename_i s I;split at h
 .cases h
 rename_i z;cases h;cases O with
 |ptr E=>
  refine⟨_,.ptr E,fun w=>?_⟩;simp only[Instr.fieldAt,aac,aae J,kB,u,Instr.sureAddr,aai,fieldPlace,C4 I,bt z,Addr.add_none,aa5]
def xU{t:TypeId}(h:iW P t x U=some v)(O:VR φ x W)(J:VR φ U D):∃v',VR φ v v'/\∀w,(Instr.index t W D).run P w= .ok v' w:=by
 unfold iW at h;split at h
 .rename_i n e cs k i I;cases J;split at h
  rotate_left
  .cases h
  rename_i size hs;split at h
  rotate_left
  .cases h
  rename_i E;cases O with
  |agg ha hc=>
   obtain⟨v',X,h2⟩:=IA (cs':=_) h ⟨ha,hc⟩;refine⟨v',X,fun w=>?_⟩;have u:=h2 w;simp only[aa0]at u;simp only[Instr.index,asIntOf,aac,aai,kB,aae I,E,adT,aab,C4 hs,u]
 .rename_i s k i I;cases J;cases O;split at h
  rotate_left
  .cases h
  rename_i E;cases h;refine⟨_,.int _ _,fun w=>?_⟩;have z:i.toNat<s.size:=oM;have hg:(if 0<=i then s[i.toNat]? else none)=some (s.data.toList.getD i.toNat 0):=by
   rw[cA E.1,ByteArray.getElem?_lt' s i.toNat z];have:i.toNat<s.data.size:=z;simp only[ma,abj,aaj this,aa6];rfl
  simp only[Instr.index,asIntOf,aac,aai,kB,aae I,hg]
 .cases h
end
section
variable{P:Program}{base:Bs}{w0:World}{φ:List Loc}{S:List Blk}{w:World}
def iC{d n:Nat}(h:bnd x d=some n)(E:∀v v',x=some v->u=some v'->VR φ v v') (z:x.isSome=u.isSome):
  u=x/\((x=none/\n=d)\/∃k i,x=some (.int k i)/\0<=i/\n=i.toNat):=by
 unfold bnd at h;split at h
 .cases h;cases u with
  |none=>exact⟨rfl,.inl ⟨rfl,rfl⟩⟩
  |some _=>simp at z
 .rename_i k i _;split at h
  .rename_i D;cases h;cases u with
   |none=>simp at z
   |some v'=>
    have:=E _ _ rfl rfl;cases this;exact⟨rfl,.inr ⟨_,_,rfl,D,rfl⟩⟩
  .cases h
 .cases h
def rm(X:(lo=none/\l=0)\/∃k i,lo=some (.int k i)/\0<=i/\l=i.toNat)
  (W:(J=none/\h=E)\/∃k i,J=some (.int k i)/\0<=i/\h=i.toNat) (h1:l<=h) (h2:h<=E) (h3:E<=u) (w:World):
  (Instr.sliceBounds D E u lo J none).run P w= .ok (l,h,u) w:=by
 have I:∀k(i:Int)(y:Nat) z,0<=i->i.toNat<=y->(Instr.sliceBound (.int k i) y z).run P w= .ok i.toNat w:=fun k i y z U hy=>run_sliceBound w k i y z U oM;rcases X with⟨rfl,rfl⟩|⟨k,i,rfl,O,rfl⟩<;>rcases W with⟨rfl,rfl⟩|⟨k',j,rfl,j0,rfl⟩
 .simp [Instr.sliceBounds]
 .simp [Instr.sliceBounds,I k' j u _ j0 oM]
 .simp [Instr.sliceBounds,I k i h _ O oM]
 .simp [Instr.sliceBounds,I k' j u _ j0 oM,I k i j.toNat _ O oM]
def yQ(hl:(lo=none/\l=0)\/∃k i,lo=some (.int k i)/\0<=i/\l=i.toNat)
  (hh:∃k i,J=some (.int k i)/\0<=i/\h=i.toNat) (hm:∃k i,mx=some (.int k i)/\0<=i/\h=i.toNat) (h1:l<=h) (h2:h<=E) (h3:E<=D) (w:World):
  (Instr.sliceBounds z E D lo J mx).run P w= .ok (l,h,h) w:=by
 have I:∀k(i:Int)(y:Nat) u,0<=i->i.toNat<=y->(Instr.sliceBound (.int k i) y u).run P w= .ok i.toNat w:=fun k i y u h0 hy=>run_sliceBound w k i y u h0 oM;obtain⟨U,j,rfl,O,rfl⟩:=hh;obtain⟨W,m,rfl,X,e⟩:=hm;rcases hl with⟨rfl,rfl⟩|⟨k,i,rfl,i0,rfl⟩
 .simp [Instr.sliceBounds,I W m D _ X oM,I U j m.toNat _ O oM];omega
 .simp [Instr.sliceBounds,I W m D _ X oM,I U j m.toNat _ O oM,I k i j.toNat _ i0 oM];omega
def FN{H:d7}(D:WR base w0 φ H.bs w){b size:Nat}(h:mX H b=some size)(I:φ[b]?=some l):l.sz=size:=by
 unfold mX at h;split at h
 next c own sz E=>cases h;obtain⟨J,u,z⟩:=D.loc E;rw[I]at u;cases u;exact z.1
 .cases h
def CC{H:d7}{t:TypeId}(hW:WR base w0 φ H.bs w)(h:L5 P H t x lo hi mx=some v)(hx:VR φ x x')
  (a2:(∀v v',lo=some v->U=some v'->VR φ v v')/\lo.isSome=U.isSome) (a1:(∀v v',hi=some v->I=some v'->VR φ v v')/\hi.isSome=I.isSome)
  (a3:(∀v v',mx=some v->J=some v'->VR φ v v')/\mx.isSome=J.isSome):
  ∃v',VR φ v v'/\∀u,(Instr.sliceAt t x' U I J).run P u= .ok v' u:=by
 unfold L5 at h;split at h
 .rename_i s hu;cases hx;split at h
  rotate_left
  .cases h
  rename_i l E a7 a6;split at h
  rotate_left
  .cases h
  rename_i hb;cases h;obtain⟨rfl,L⟩:=iC a7 a2.1 a2.2;obtain⟨rfl,R⟩:=iC a6 a1.1 a1.2;obtain rfl:J=none:=by cases J<;>simp at a3 ⊢
  refine⟨_,.string _,fun u=>?_⟩;simp [Instr.sliceAt,Instr.slice,aae hu,rm L R hb.1 hb.2 lR]
 .rename_i e a n c hu;split at h
  rotate_left
  .cases h
  rename_i size l E hs a7 a6;split at h
  .cases h
  rename_i b6;split at h
  rotate_left
  .cases h
  rename_i hb;obtain⟨rfl,L⟩:=iC a7 a2.1 a2.2;obtain⟨rfl,R⟩:=iC a6 a1.1 a1.2;split at h
  ·
   obtain rfl:J=none:=by cases J<;>simp at a3 ⊢
   have run:∀a'(z:Nat),n<=z->∀u,(Instr.sliceAt t (.slice a' n z) U I none).run P u= .ok (.slice (if z=l then a' else a'.map (·.add (l*size))) (E-l) (z-l)) u:=by
    intro a' z X u;simp [Instr.sliceAt,Instr.slice,aae hu,rm L R hb.1 hb.2 X,C4 hs]
   split at h
   .cases h;cases hx;exact⟨_,.nilslice,fun u=>by rw[run _ _ lR];simp;omega⟩
   .rename_i b o;by_cases b1:n=0
    .subst b1;rw[cA rfl]at h;cases h;have e0:l=0:=oM;have e1:E=0:=oM;subst e0 e1;cases hx with
     |slice0=>exact⟨.slice (some _) 0 0,.slice0,fun u=>by rw[run _ _ lR];simp;rfl⟩
     |exact O=>exact⟨.slice (some _) 0 0,.slice0,fun u=>by rw[run _ _ lR];simp;rfl⟩
     |slice O hn X=>
      rename_i c' lc;by_cases a9:c'=0
      .subst a9;exact⟨.slice (some _) 0 0,.slice0,fun u=>by rw[run _ _ lR];simp;rfl⟩
      .refine⟨_,?_,fun u=>run _ _ hn u⟩;rw[bt a9];simp only[aaU,Addr.add_none,aa5,aa8,aaf,adY];exact .slice O (aaJ _) X
    rw[bt b1]at h;split at h
    .cases h
    rename_i a8;have a8:mX H b=some size:=Decidable.not_not.1 a8;split at h
    .rename_i a5;subst a5;split at h
     rotate_left
     .cases h
     rename_i b2;subst b2;cases h;cases hx with
     |slice0=>
      have h0:l=0:=oM;subst h0;exact⟨.slice (some _) 0 0,.slice0,fun u=>by rw[run _ _ lR];simp;rfl⟩
     |exact O=>
      rename_i lc;by_cases D:E=l
      .subst D;refine⟨_,?_,fun u=>run _ _ lR u⟩;rw[cA rfl];have:E-E=0:=oM;rw[this];exact .slice0
      .refine⟨_,?_,fun u=>run _ _ lR u⟩;rw[bt D];simp only[aaU,Addr.add_none,aa5];exact .exact O
    .rename_i a5;cases h;cases hx with
     |slice0=>
      have h0:l=0:=oM;have W:E=0:=oM;subst h0 W;exact⟨.slice (some _) 0 0,.slice0,fun u=>by rw[run _ _ lR];simp;rfl⟩
     |exact O=>exact absurd rfl a5
     |slice O hn X=>
      rename_i c' lc;refine⟨_,?_,fun u=>run _ _ hn u⟩;by_cases D:c'=l
      .subst D;rw[cA rfl];have e1:E-c'=0:=oM;have e2:c'-c'=0:=oM;rw[e1,e2];exact .slice0
      .rw[bt D];simp only[aaU,Addr.add_none,aa5];refine .slice O oM ?_;have hz:=FN hW a8 O;rw[hz]at X ⊢;have:o+l*size+(c'-l)*size=o+c'*size:=by
        have:l<=c':=oM;rw[aa5,<-aaP,Nat.add_sub_cancel' this]
       omega
   .cases h
  .rename_i m;split at h
   rotate_left
   .cases h
   rename_i b0;obtain⟨rfl,M⟩:=iC b0.1 a3.1 a3.2;have M':∃k i,some m=some (.int k i)/\0<=i/\E=i.toNat:=by
    rcases M with⟨W,_⟩|W
    .cases W
    .exact W
   have R':I.isSome->∃k i,I=some (.int k i)/\0<=i/\E=i.toNat:=by
    intro b4;rcases R with⟨W,_⟩|W
    .subst W;cases b4
    .exact W
   have run:∀a'(z:Nat),n<=z->∀u,(Instr.sliceAt t (.slice a' n z) U I (some m)).run P u= .ok (.slice (if E=l then a' else a'.map (·.add (l*size))) (E-l) (E-l)) u:=by
    intro a' z X u;simp [Instr.sliceAt,Instr.slice,aae hu,yQ L (R' b0.2) M' hb.1 hb.2 X,C4 hs]
   split at h
   .cases h;cases hx;exact⟨_,.nilslice,fun u=>by rw[run _ _ lR];simp;omega⟩
   .rename_i b o;cases h;have a4:∀a'(z:Nat),n<=z->(E=l\/∃lc:Loc,φ[b]?=some lc/\a'=some ⟨lc.blk,lc.off+o,none⟩)->a'.isSome->
      ∃v',VR φ (.slice (some ⟨b,o+l*size,none⟩) (E-l) (E-l)) v'/\∀u,(Instr.sliceAt t (.slice a' n z) U I (some m)).run P u= .ok v' u:=by
     intro a' z X b3 b5;refine⟨_,?_,fun u=>run _ _ X u⟩;by_cases D:E=l
     .subst D;rw[cA rfl];have:E-E=0:=oM;rw[this];cases a' with
      |none=>cases b5
      |some a'=>exact .slice0
     .rw[bt D];rcases b3 with W|⟨lc,O,rfl⟩
      .exact absurd W D
      .simp only[aaU,Addr.add_none,aa5];exact .exact O
    cases hx with
    |slice0=>exact a4 _ _ lR (.inl oM) rfl
    |exact O=>exact a4 _ _ lR (.inr ⟨_,O,rfl⟩) rfl
    |slice O hn X=>exact a4 _ _ hn (.inr ⟨_,O,rfl⟩) rfl
   .cases h
 .cases h
def D2(c:LV)(o:Nat)(xs:LV):(splice c o xs).length=c.length:=by
 induction xs generalizing c o with
 |nil=>rfl
 |cons x xs h=>simp [splice,h]
def VRs.splice{a b xs u:LV}(h:VRs φ a b)(o:Nat)(k:VRs φ xs u):VRs φ (Ve.splice a o xs) (Ve.splice b o u):=by
 induction xs generalizing a b o u with
 |nil=>rw[k.of_nil];exact h
 |cons x xs E=>
  obtain⟨y,u,rfl,z,D⟩:=k.of_cons;exact E (h.set o z) (o+1) D
def vm(l:LV):∀(k h:Nat)(cs:Array aet),(l.zipIdx k).foldl (fun cs(c,j)=>cs.setIfInBounds (h+j) c) cs=(splice cs.toList (h+k) l).toArray:=by
 induction l with
 |nil=>intro k h cs;simp [splice]
 |cons x xs u=>
  intro k h cs;simp only[List.zipIdx_cons,aak,u,splice]
  congr 1
  rw[ady];rw[aa5]
def kJ(φ:List Loc)(a b:List (Nat×aet)):Prop:=a.length=b.length/\∀(i:Nat) x y,a[i]?=some x->b[i]?=some y->x.1=y.1/\VR φ x.2 y.2
def kJ.of_cons(h:kJ φ ((i,x)::xs) z):∃y u,z=(i,y)::u/\VR φ x y/\kJ φ xs u:=by
 cases z with
 |nil=>have:=h.1;simp at this
 |cons y u=>
  obtain⟨j,y⟩:=y;have D:=h.2 0 (i,x) (j,y) sM sM;simp only at D;obtain⟨rfl,E⟩:=D;exact⟨y,u,rfl,E,by have:=h.1;simpa using this,fun k a b p q=>h.2 (k+1) a b (by simpa using p) (by simpa using q)⟩
def kJ.of_nil(h:kJ φ [] u):u=[]:=by
 have:=h.1;cases u with
 |nil=>rfl
 |cons _ _=>simp at this
def gC:∀{cs cs' l:LV},V7 D cs u=some l->VRs φ cs cs'->kJ φ u z->
  ∃X,Instr.fill D cs'.toArray z=some X.toArray/\VRs φ l X:=by
 induction u generalizing z with
 |nil=>
  intro cs cs' l h W hp;rw[hp.of_nil];simp only[V7,aaa]at h;subst h;exact⟨cs',rfl,W⟩
 |cons p u ih=>
  intro cs cs' l h W hp;obtain⟨i,x⟩:=p;obtain⟨y,ys,rfl,hv,a1⟩:=hp.of_cons;simp only[V7]at h;cases O:D i with
  |none=>simp [O]at h
  |some q=>
   obtain⟨U,size⟩:=q;simp only[O]at h;split at h
   .cases h
   rename_i J;have I:x.cells.toList.all oC=true:=by
    cases hq:x.cells.toList.all oC with
    |true=>rfl
    |false=>exact absurd (.inr (.inr hq)) J
   have a3:y.cells.toList.length=x.cells.toList.length:=(hv.cells I).1.symm;have a2:=W.1;obtain⟨X,e1,e2⟩:=ih h (W.splice U (hv.cells I)) a1;refine⟨X,?_,e2⟩;simp only[Instr.fill,O];have hy:y.cells.size=size:=by
    have:y.cells.toList.length=y.cells.size:=sM;omega
   have E:((decide (y.cells.size≠size))||decide (U+y.cells.size>cs'.toArray.size))=false:=by
    simp only[hy,ne_eq,abU,aeq,abA,abY,adK];omega
   rw[E];simp only[bF];rw[<-e1]
   congr 1
   rw[<-Array.foldl_toList,Array.toList_zipIdx,vm];simp
def xe{t:TypeId}(h:pL P t J=some v)(hp:kJ φ J E):
  ∃v',VR φ v v'/\∀w,(Instr.build t E.toArray).run P w= .ok v' w:=by
 unfold pL at h;have O:∀z,N3 P t=some z->∃it zv,P.info? t=some it/\it.zero=some zv/\zv.cells.toList=z/\z.all Ve.na0=true:=by
  intro z I;unfold N3 at I;cases U:P.info? t with
  |none=>simp [U]at I
  |some it=>
   cases D:it.zero with
   |none=>simp [U,D]at I
   |some zv=>
    simp only[U,D,aas]at I;split at I
    next hc=>cases I;simp only[gk]at hc;exact⟨it,zv,rfl,D,rfl,hc.1⟩
    .cases I
 split at h
 .rename_i z ps I u;obtain⟨it,zv,U,D,rfl,X⟩:=O z I;simp only[ZZ]at h;obtain⟨l,hl,rfl⟩:=h;obtain⟨l',e1,e2⟩:=gC hl (VRs.na0 X) hp;refine⟨_,VR.toAgg e2,fun w=>run_build w t _ _ ?_⟩;unfold JQ at u;split at u
  .rename_i fs hu;simp only[ZZ]at u;obtain⟨a3,a2,he⟩:=u;cases he;have a1:fs.toList.mapM (fun f=>(P.info? f.type).map fun i=>(f.offset,i.size))=some ps:=by
    rw[<-a2]
    congr 1
    funext f
    simp [D3,Option.map_map,Function.comp_def]
   simp only[Program.built,U,hu,D,a1]
   simpa using e1
  next n e hu=>simp at u
  .cases u
 .rename_i z s I u;obtain⟨it,zv,U,D,rfl,X⟩:=O z I;simp only[ZZ]at h;obtain⟨l,hl,rfl⟩:=h;obtain⟨l',e1,e2⟩:=gC hl (VRs.na0 X) hp;refine⟨_,VR.toAgg e2,fun w=>run_build w t _ _ ?_⟩;unfold JQ at u;split at u
  .simp at u
  .rename_i n e hu;simp only[ZZ]at u;obtain⟨s',hs,he⟩:=u;cases he;unfold D3 at hs;cases W:P.info? e with
   |none=>simp [W]at hs
   |some ie=>
    simp [W]at hs;subst hs;simp only[Program.built,U,hu,D,W]
    simpa using e1
  .cases u
 .cases h
def EM{H:d7}(hW:WR base w0 φ H.bs w)(h:Iw P H ts x=some v)(J:VR φ x x')(ty:TypeId):
  ∃v',VR φ v v'/\∀D,Cls base w0 φ H.bs w D->(Builtin.len_ ts.toArray ty #[x']).run P D= .ok v' D:=by
 unfold Iw at h;have E:∀d,ts.head?.bind P.underlying=some d->∃t,ts.toArray[0]?=some t/\P.underlying t=some d:=by
  intro d E;cases ts with
  |nil=>simp at E
  |cons t ts=>exact⟨t,by simp,by simpa using E⟩
 split at h
 next s u=>obtain⟨t,z,u⟩:=E _ u;cases h;cases J;exact⟨_,.int _ _,fun D _=>by simp [Builtin.len_,z,aae u,goInt]⟩
 next e a n c u=>obtain⟨t,z,u⟩:=E _ u;cases h;cases J<;>exact⟨_,.int _ _,fun D _=>by simp [Builtin.len_,z,aae u,goInt]⟩
 next n e x u=>obtain⟨t,z,u⟩:=E _ u;cases h;exact⟨_,.int _ _,fun D _=>by simp [Builtin.len_,z,aae u,goInt]⟩
 next k e u=>obtain⟨t,z,u⟩:=E _ u;cases h;cases J;exact⟨_,.int _ _,fun D _=>by simp [Builtin.len_,z,aae u,goInt]⟩
 .rename_i k e b u;obtain⟨t,z,u⟩:=E _ u;split at h
  rotate_left
  .cases h
  rename_i es W;cases h;cases J with
  |map X=>
   rename_i l;obtain⟨l',I,U⟩:=hW.loc W;rw[X]at I;cases I;obtain⟨hb,O,cl,h1,h2,h3⟩:=U;refine⟨_,.int _ _,fun D hc=>?_⟩;have hh:D.heap[l.blk]?=some (.map O cl):=by rw[hc.same _ _ l W sM X];exact h1
   simp [Builtin.len_,z,aae u,getObj,Sem.run,hh,goInt,h2]
 .cases h
def lH:∀{xs:LV}{v:aet},kv z xs=some v->∀u,VRs φ xs u->∃y rest,u=y::rest/\VR φ v v/\∀w,(rest.foldlM (if z then Builtin.max2 else Builtin.min2) y).run P w= .ok v w:=by
 intro xs;induction X:xs.length using Nat.strongRecOn generalizing xs with
 |_ n ih=>
  intro v h u J;unfold kv at h;split at h
  .cases h;obtain⟨y,u,rfl,D,E⟩:=J.of_cons;rw[E.of_nil];cases D;exact⟨_,[],rfl,.int _ _,fun w=>by simp⟩
  .rename_i k a k' b rest;split at h
   rotate_left
   .cases h
   rename_i W;subst W;obtain⟨y,u,rfl,D,E⟩:=J.of_cons;obtain⟨y2,u,rfl,O,U⟩:=E.of_cons;cases D;cases O;obtain⟨y3,I,e,hv,hr⟩:=ih _ (by simp at X ⊢;omega) rfl h (_::u) (.cons (.int k _) U);obtain⟨rfl,rfl⟩:=List.cons.inj e;refine⟨_,_,rfl,hv,fun w=>?_⟩;rw[List.foldlM_cons,aac];have:((if z then Builtin.max2 else Builtin.min2) (.int k a) (.int k b)).run P w= .ok (.int k (if z then(if b>a then b else a) else(if b<a then b else a))) w:=by
    cases z<;>rfl
   rw[this,kB];exact hr w
  .cases h
def my(s:aes):(s==s)=true:=by rw[ac0];simp
def vF(h:mI k x=true):P7 k x x=some true:=by
 unfold mI at h;split at h
 .simp [P7]
 .simp [P7]
 .simp [P7,my]
 .cases h
def tX(h:Y2 u xs=true):B8 u xs xs=some true:=by
 induction u generalizing xs with
 |nil=>
  cases xs with
  |nil=>rfl
  |cons _ _=>cases h
 |cons k u z=>
  cases xs with
  |nil=>cases h
  |cons x xs=>
   simp only[Y2,gk]at h;simp [B8,vF h.1,z h.2]
def Ep{t:TypeId}(h:aq P d t=some z):∃q,cY P t=some q:=by
 cases d with
 |zero=>cases h
 |succ d=>
  unfold cY;unfold aq at h;split at h<;>rename_i u<;>first|exact⟨_,by rw[u]⟩|cases h
def lk{t:TypeId}(h:aq P d t=some u)(D:cY P t=some false):∃k,u=[k]:=by
 cases d with
 |zero=>cases h
 |succ d=>obtain⟨k,z,_⟩:=iO h D;exact⟨k,z⟩
def ig{t:TypeId}(h:aq P d t=some J)(z:cY P t=some false)(D:Nat)(v:aet)(w:World)(E:P7 k v v=some true):
  (Instr.checkKey u (D+1) t v).run P w= .ok () w:=by
 cases d with
 |zero=>cases h
 |succ d=>
  unfold cY at z;unfold aq at h;unfold P7 at E;split at h<;>rename_i I<;>(try rw[I]at z)<;>first|(cases z;done)|(cases h;done)|skip
  all_goals
   split at E<;>first|(cases E;done)|simp [Instr.checkKey,aae I]
def uW:∀{d:Nat}{t:TypeId}{ks:List V1},aq P d t=some ks->cY P t=some true->∀D,d<=D->∀(xs:Array aet)(w:World),
  B8 ks xs.toList xs.toList=some true->(Instr.checkKey u D t (.agg xs)).run P w= .ok () w:=by
 intro d;induction d with
 |zero=>intro t ks h;cases h
 |succ d ih=>
  intro t ks h hq D hD xs w hc;obtain⟨D,rfl⟩:∃m,D=m+1:=⟨D-1,oM⟩
  unfold cY at hq;unfold aq at h;split at h<;>rename_i hu<;>(try rw[hu]at hq)<;>first|(cases hq;done)|(cases h;done)|skip
  rename_i fs;split at h
  .cases h
  simp only[Instr.checkKey,aac,aae hu,kB];rw[<-Array.forIn_toList];have key:∀(U:List Field)(n:Nat)(r:List V1),km P (aq P d) U n=some r->B8 r (xs.toList.drop n) (xs.toList.drop n)=some true->
    (Sem.run P (forIn U PUnit.unit fun f a5=>
      if f.name≠ "_" then do
       let __do_lift<-part f.type xs f.offset
       Instr.checkKey u D f.type __do_lift
       pure (ForInStep.yield PUnit.unit)
      else pure (ForInStep.yield PUnit.unit)) w)= .ok PUnit.unit w:=by
   intro U;induction U with
   |nil=>intro n r I h2;rfl
   |cons f U a4=>
    intro n r I h2;simp only[km]at I;split at I
    rotate_left
    .cases I
    rename_i hn;split at I
    rotate_left
    .cases I
    rename_i m hm;split at I
    rotate_left
    .cases I
    rename_i hs;simp only[ZZ]at I;obtain⟨r',a2,rfl⟩:=I;obtain⟨b1,b2,J,e2,e3⟩:=iH h2;obtain⟨rfl,rfl⟩:b1=true/\b2=true:=by cases b1<;>cases b2<;>simp at e3 ⊢
    rw[abm]at e2;have a1:=a4 _ _ a2 e2;have X:=ez J;have O:∃a,(part f.type xs f.offset).run P w= .ok a w/\(Instr.checkKey u D f.type a).run P w= .ok () w:=by
     obtain⟨q,E⟩:=Ep hm;cases q with
     |true=>
      refine⟨.agg (xs.extract f.offset (f.offset+m.length)),by simp [part,R7 E,C4 hs],ih hm E D oM _ w ?_⟩;rw[hn.2]
      simpa [List.take_drop] using J
     |false=>
      obtain⟨k,rfl⟩:=lk hm E;obtain⟨D',rfl⟩:∃z,D=z+1:=⟨D-1,by cases d with
       |zero=>cases hm
       |succ d=>omega⟩
      simp only[A1,aaG,aaH]at J X;obtain⟨x,hx⟩:∃x,(xs.toList.drop n).take 1=[x]:=aa2.1 X.1;rw[hx]at J;have a3:xs[f.offset]?=some x:=by
       have:((xs.toList.drop n).take 1)[0]?=some x:=by rw[hx];rfl
       rw[hn.2];simpa [aaO,aaA] using this
      refine⟨x,by simp [part,R7 E,a3],ig hm E D' x w (k:=k) ?_⟩;unfold B8 at J;cases W:P7 k x x with
      |none=>simp [W]at J
      |some z=>simp [W,B8]at J;rw[J]
    obtain⟨a,s1,s2⟩:=O;rw[List.forIn_cons];simp only[hn.1,ne_eq,adJ,aab,aac,s1,s2,kB,aai]
    simpa using a1
  rw[key fs.toList 0 ks h (by simpa using hc)];rfl
def bL{kt:TypeId}(h:aH P kt k=true)(u:Bool)(w:World):(Instr.checkKey u 10000 kt k).run P w= .ok () w:=by
 unfold aH at h;split at h
 next E cs D z=>exact uW (V0 D).2 z 10000 oM cs w (tX h)
 next E D z=>obtain⟨I,rfl⟩:=lk (V0 D).2 z;simp only[Y2,aa9]at h;exact ig (V0 D).2 z 9999 _ w (vF h)
 .cases h
def nJ{kt:TypeId}(h:aH P kt k=true)(u:VR φ k J):J=k:=by
 unfold aH at h;split at h
 .rename_i O cs I E;cases u with
  |agg z D=>
   have:=(kh (tX h) ⟨z,D⟩ ⟨z,D⟩).1;rw[aaC.1 this]
 next O I E=>obtain⟨U,rfl⟩:=lk (V0 I).2 E;simp only[Y2,aa9]at h;exact(mz (vF h) u u).1
 .cases h
def nh(h:P7 k x y=some true):x=y:=by
 unfold P7 at h;split at h
 .simp only[aaa,acK]at h;rw[h]
 .split at h
  next z=>subst z;simp only[aaa,acK]at h;rw[h]
  .cases h
 .simp only[aaa]at h;rw[ac0,acK,acW,acW]at h;have u:=aaC.1 h;rename_i a b;obtain⟨a⟩:=a;obtain⟨b⟩:=b;simp only at u;rw[u]
 .cases h
def uU(h:B8 z xs u=some true):xs=u:=by
 induction z generalizing xs u with
 |nil=>cases xs<;>cases u<;>first|rfl|cases h
 |cons k z I=>
  cases xs with
  |nil=>cases h
  |cons x xs=>
   cases u with
   |nil=>cases h
   |cons y u=>
    simp only[B8]at h;split at h
    .rename_i a b D E;obtain⟨rfl,rfl⟩:a=true/\b=true:=by cases a<;>cases b<;>simp at h ⊢
     rw[nh D,I E]
    .cases h
def th{b:Bool}(h:P7 k x y=some b):Ve.na0 x=true:=by
 unfold P7 at h;split at h<;>first|rfl|cases h
def zI{b:Bool}(h:B8 E xs u=some b):∀(i:Nat)(x:aet),xs[i]?=some x->∃X:Unit,xs=xs/\Ve.na0 x=true:=by
 induction E generalizing xs u b with
 |nil=>cases xs<;>cases u<;>first|(intro i x U;simp at U;done)|cases h
 |cons k E W=>
  cases xs with
  |nil=>cases h
  |cons x xs=>
   cases u with
   |nil=>cases h
   |cons y u=>
    simp only[B8]at h;split at h
    .rename_i a b I J;intro i z D;cases i with
     |zero=>simp at D;subst D;exact⟨(),rfl,th I⟩
     |succ i=>obtain⟨_,_,O⟩:=W J i z (by simpa using D);exact⟨(),rfl,O⟩
    .cases h
def Ir{kt:TypeId}{b:Bool}(h:qy P kt k x=some b)(U:VR φ x I):
  I=x/\(∀w,(Op.equal kt k I).run P w= .ok b w)/\(b=true->x=k):=by
 unfold qy at h;split at h
 .rename_i ks E u;split at h
  .rename_i xs ys;cases U with
   |agg W X=>
    have hy:=(kh (φ:=φ) (xs':=xs.toList) h ⟨rfl,fun i p q J O=>?_⟩ ⟨W,X⟩).2
    .obtain rfl:=aaC.1 hy;exact⟨rfl,fun w=>xM (V0 E).2 u 10000 oM _ _ b w h,fun D=>by subst D;rw[aaC.1 (uU h)]⟩
    .rw[J]at O;cases O;obtain⟨z,_,hz⟩:=zI h _ _ J;exact VR.na0 hz
  .cases h
 next kk E u=>obtain⟨k1,e,hk⟩:=iO (d:=8) (V0 E).2 u;cases e;have:=(mz h (VR.na0 (th h)) U).2;subst this;exact⟨rfl,fun w=>hk 9999 _ _ b w h,fun D=>by subst D;exact(nh h).symm⟩
 .cases h
def rn{kt:TypeId}{b c:Bool}{d:TypeDesc}(h:qy P kt k x=some b)(u:Instr.sameNow d k x=some c):c=b:=by
 unfold qy at h;split at h
 .split at h
  .unfold Instr.sameNow at u;split at u<;>simp_all
  .cases h
 .unfold P7 at h;split at h
  .unfold Instr.sameNow at u;split at u<;>first|(cases u;done)|skip
   all_goals first|(rename_i z E;cases z;done)|skip
   all_goals simp_all
  .split at h
   .rename_i D;subst D;unfold Instr.sameNow at u;split at u<;>first|(cases u;done)|skip
    all_goals simp_all
   .cases h
  .unfold Instr.sameNow at u;split at u<;>first|(cases u;done)|skip
   all_goals simp_all
  .cases h
 .cases h
def Ak{kt:TypeId}:∀{I:List (aet×aet)}{u:List MapEntry}{i:Nat}{r:Option (Nat×aet)},jO P kt k I i=some r->I.length=u.length->
  (∀(j:Nat) a m,I[j]?=some a->u[j]?=some m->VR φ a.1 m.key/\VR φ a.2 m.val)->
  ∃J,(∀w,(Instr.findAsking kt k u i).run P w= .ok J w)/\(∀d z,Instr.findNow d k u i=some z->z=J)/\
   (match r,J with|none,none=>True|some (j,v),some (j',v')=>j=j'/\VR φ v v'/\i<=j/\I[j-i]?=some (k,v)/\(u[j-i]?).map (·.key)=some k|_,_=>False):=by
 intro I;induction I with
 |nil=>
  intro u i r h W he;cases u with
  |cons _ _=>simp at W
  |nil=>
   cases h;exact⟨none,fun w=>by simp [Instr.findAsking],fun d z E=>by simp [Instr.findNow]at E;exact E.symm,trivial⟩
 |cons a I ih=>
  intro u i r h W he;obtain⟨ka,va⟩:=a;cases u with
  |nil=>simp at W
  |cons m u=>
   obtain⟨hk,hv⟩:=he 0 (ka,va) m sM sM;simp only[jO]at h;split at h
   .rename_i D;cases h;obtain⟨O,X,e3⟩:=Ir D hk;have e4:=e3 rfl;refine⟨some (i,m.val),fun w=>?_,fun d z E=>?_,rfl,hv,lR,by simp [e4],by simp [O,e4]⟩
    .simp [Instr.findAsking,X w]
    .rw[Instr.findNow,O]at E;split at E
     .exact(aal E).symm
     next hs=>have:=rn D hs;cases this
     .cases E
   .rename_i D;obtain⟨O,X,e3⟩:=Ir D hk;obtain⟨J,f1,f2,U⟩:=ih h (by simpa using W) (fun j a m' p q=>he (j+1) a m' (by simpa using p) (by simpa using q));refine⟨J,fun w=>?_,fun d z E=>?_,?_⟩
    .simp [Instr.findAsking,X w,f1 w]
    .rw[Instr.findNow,O]at E;split at E
     next hs=>have:=rn D hs;cases this
     .exact f2 d z E
     .cases E
    .cases r with
     |none=>cases J<;>first|exact U|exact U.elim
     |some q=>
      obtain⟨j,v⟩:=q;cases J with
      |none=>exact U.elim
      |some q'=>
       obtain⟨j',v'⟩:=q';obtain⟨g1,g2,g3,g4,g5⟩:=U;refine⟨g1,g2,oM,?_,?_⟩
       .rw[show j-i=(j-(i+1))+1 from oM];simpa using g4
       .rw[show j-i=(j-(i+1))+1 from oM];simpa using g5
   .cases h
def cq{kt:TypeId}{u:List MapEntry}(U:aH P kt k=true)(h:jO P kt k E 0=some r)(hl:E.length=u.length)
  (he:∀(j:Nat) a m,E[j]?=some a->u[j]?=some m->VR φ a.1 m.key/\VR φ a.2 m.val):
  ∃D,(∀w,(Instr.findKey kt k u).run P w= .ok D w)/\
   (match r,D with|none,none=>True|some (j,v),some (j',v')=>j=j'/\VR φ v v'/\E[j]?=some (k,v)/\(u[j]?).map (·.key)=some k|_,_=>False):=by
 obtain⟨D,W,X,I⟩:=Ak h hl he;have J:∃d,P.underlying kt=some d:=by
  unfold aH at U;cases O:wl P kt with
  |none=>simp [O]at U
  |some ks=>
   have:=(V0 O).2;unfold aq at this;split at this<;>rename_i J<;>first|exact⟨_,J⟩|cases this
 obtain⟨d,hd⟩:=J;refine⟨D,fun w=>?_,?_⟩
 .simp only[Instr.findKey,aac,aae hd,kB];split
  next z hz=>rw[X d z hz];rfl
  .exact W w
 .cases r with
  |none=>cases D<;>first|exact I|exact I.elim
  |some q=>
   cases D with
   |none=>exact I.elim
   |some q'=>obtain⟨g1,g2,g3,g4,g5⟩:=I;exact⟨g1,g2,by simpa using g4,by simpa using g5⟩
def vH{H:d7}{t:TypeId}(hW:WR base w0 φ H.bs w)(h:jv P H t m k ok=some v)(hm:VR φ m m')(hk:VR φ k k'):
  ∃v',VR φ v v'/\∀D,Cls base w0 φ H.bs w D->(Instr.lookup t m' k' ok).run P D= .ok v' D:=by
 unfold jv at h;split at h
 rotate_left
 .cases h
 rename_i kt et a3;have U:=uD a3;split at h
 rotate_left
 .cases h
 rename_i u;obtain rfl:=nJ u hk;have E:∀(z W:aet)(b:Bool),VR φ z W->VR φ (if ok then .tuple #[z,.bool b] else z) (if ok then .tuple #[W,.bool b] else W):=by
  intro z W b J;cases ok
  .exact J
  .exact VR.toTuple (a:=[z,.bool b]) (b:=[W,.bool b]) (.cons J (.cons (.bool b) (.nil φ)))
 split at h
 .rename_i b;split at h
  rotate_left
  .cases h
  rename_i es hg;cases hm with
  |map hl=>
   rename_i l;obtain⟨l',O,a2⟩:=hW.loc hg;rw[hl]at O;cases O;obtain⟨hb,a1,cl,h1,h2,h3⟩:=a2;have hh:∀D,Cls base w0 φ H.bs w D->D.heap[l.blk]?=some (.map a1 cl):=fun D I=>by rw[I.same _ _ l hg sM hl];exact h1
   split at h
   .rename_i j va z hf J;cases h;obtain⟨r',f1,X⟩:=cq (φ:=φ) u hf (by simpa using h2.symm) (fun j a m p q=>h3 j a.1 a.2 m p q);cases r' with
    |none=>exact X.elim
    |some q=>
     obtain⟨j',v'⟩:=q;obtain⟨g1,g2,_⟩:=X;refine⟨_,E va v' true g2,fun D I=>?_⟩;simp only[Instr.lookup,aac,aae U,kB,getObj,Sem.run,hh D I,bL u,f1,aai]
   .rename_i z hf J;cases h;obtain⟨r',f1,X⟩:=cq (φ:=φ) u hf (by simpa using h2.symm) (fun j a m p q=>h3 j a.1 a.2 m p q);cases r' with
    |some q=>exact X.elim
    |none=>
     refine⟨_,E z z false (VR.na1 (bO J w).2),fun D I=>?_⟩;simp only[Instr.lookup,aac,aae U,kB,getObj,Sem.run,hh D I,bL u,f1,aai,(bO J D).1]
   .cases h
 .cases hm;simp only[ZZ]at h;obtain⟨z,J,rfl⟩:=h;obtain⟨d,hd⟩:∃d,P.underlying kt=some d:=by
   unfold aH at u;cases I:wl P kt with
   |none=>simp [I]at u
   |some ks=>
    have:=(V0 I).2;unfold aq at this;split at this<;>rename_i U<;>first|exact⟨_,U⟩|cases this
  refine⟨_,E z z false (VR.na1 (bO J w).2),fun D I=>?_⟩;simp [Instr.lookup,aae U,bL u,Instr.findKey,aae hd,Instr.findNow,(bO J D).1]
 .cases h
end
section
variable{P:Program}{base:Bs}{w0:World}{φ:List Loc}{S:List Blk}{w:World}
def Z4{H:d7}{size n c:Nat}{a:Option Addr}(hW:WR base w0 φ H.bs w)(h:A6 H size (.slice a n c)=some l)(hx:VR φ (.slice a n c) x'):
  ∃a' D z,x'= .slice a' n D/\z.length=n*size/\VRs φ l z/\∀u,Cls base w0 φ H.bs w u->∀k,k<=n->(Builtin.firstCells size k x').run P u= .ok (z.take (k*size)).toArray u:=by
 unfold A6 at h;split at h
 next c0 e=>cases e;cases h;cases hx;exact⟨none,0,[],rfl,by simp,.nil φ,fun u _ k _=>by simp [Builtin.firstCells]⟩
 .rename_i b o n0 c0 e;cases e;split at h
  .rename_i hn;subst hn;cases h;have:∀a' D,∃E I z,(Value.slice (some a') 0 D)= .slice E 0 I/\z.length=0*size/\VRs φ [] z/\∀u,Cls base w0 φ H.bs w u->∀k,k<=0->(Builtin.firstCells size k (.slice (some a') 0 D)).run P u= .ok (z.take (k*size)).toArray u:=
    fun a' D=>⟨some a',D,[],rfl,by simp,.nil φ,fun u _ k hk=>(by have h0:k=0:=oM;subst h0;simp [Builtin.firstCells,loadCells,loadCellsFrom])⟩
   cases hx<;>exact this _ _
  .rename_i hn;split at h
   rotate_left
   .cases h
   rename_i cs own sz hg;split at h
   rotate_left
   .cases h
   rename_i a1;cases h;have J:∀(lc:Loc) D,φ[b]?=some lc->∃E I z,(Value.slice (some ⟨lc.blk,lc.off+o,none⟩) n D)= .slice E n I/\z.length=n*size/\VRs φ ((cs.drop o).take (n*size)) z/\
     ∀u,Cls base w0 φ H.bs w u->∀k,k<=n->(Builtin.firstCells size k (.slice (some ⟨lc.blk,lc.off+o,none⟩) n D)).run P u= .ok (z.take (k*size)).toArray u:=by
    intro lc D O;obtain⟨ys,hv,hc⟩:=nj hW hg O;have U:((ys.drop o).take (n*size)).length=n*size:=by have:=hv.1;simp;omega
    refine⟨_,_,_,rfl,U,(hv.drop o).take (n*size),fun u W k hk=>?_⟩;simp only[Builtin.firstCells];have X:k*size<=n*size:=aaW _ hk;rw[uu (hc u W) o (k*size) (by rw[<-hv.1];omega),acL,adt X]
   cases hx with
   |slice0=>exact absurd rfl hn
   |exact O=>exact J _ _ O
   |slice O=>exact J _ _ O
 .cases h
def yk{l D:LV}(h:l.mapM eu=some bs)(E:VRs φ l D):D=l:=by
 induction l generalizing D bs with
 |nil=>exact E.of_nil
 |cons x xs U=>
  obtain⟨y,W,rfl,I,J⟩:=E.of_cons;simp only[ab1,adu,ad7]at h;cases u:eu x with
  |none=>simp [u]at h
  |some b=>
   cases z:xs.mapM eu with
   |none=>simp [u,z]at h
   |some r=>
    have O:y=x:=by
     unfold eu at u;split at u
     .cases I;rfl
     .cases u
    rw[O,U z J]
def zF(l:LV):∀(u:aes)(bs:List UInt8)(w:World),l.mapM eu=some bs->
  (forIn l u (fun c s=>(match c with
   | .int .u8 n=>pure (ForInStep.yield (s.push (UInt8.ofNat n.toNat)))
   |_=>(do stuck "bytesToString: byte expected";pure (ForInStep.yield s)):Sem (ForInStep aes)))).run P w= .ok ⟨u.data++bs.toArray⟩ w:=by
 induction l with
 |nil=>intro u bs w h;simp at h;subst h;simp
 |cons x xs E=>
  intro u bs w h;simp only[ab1,adu,ad7]at h;cases z:eu x with
  |none=>simp [z]at h
  |some b=>
   cases D:xs.mapM eu with
   |none=>simp [z,D]at h
   |some r=>
    simp [z,D]at h;subst h;unfold eu at z;split at z
    .cases z;rw[List.forIn_cons];simp only[aac,aai,kB,E _ _ w D]
     congr 2
     simp [ByteArray.push]
    .cases z
def Fj{e:Env}{ts:Array aet}(u:ts.size=D/\∀t,VR φ (e.g t) (ts.getD t undef)) {a:Act} (z:a.tmps=ts)  (h:D0 x=true):VR φ (opv e x) (a.eval x):=by
 cases x with
 |tmp t=>simpa [opv,Act.eval,z] using u.2 t
 |const v=>exact VR.na h
 |global g=>cases h
 |func f=>exact .func f rfl (fun i x y p=>by simp at p) rfl (fun i x y p=>by simp at p)
end
section
variable{P:Program}{base:Bs}{w0:World}{φ:List Loc}{S:List Blk}{w:World}
def Cls.drew(h:Cls base w0 φ S w u):Cls base w0 φ S w u.drew:=
 ⟨h.wr.same_heap rfl rfl rfl rfl,fun b B l p q r=>h.same b B l p q r⟩
def jn(z:Array aet)(n:Nat):(Builtin.zeroCells z n).size=n*z.size:=by simp [Builtin.zeroCells]
def Lf(z:Array aet)(h:0<z.size)(n:Nat):(Builtin.zeroCells z n).toList=(List.replicate n z.toList).flatten:=by
 have key:∀(n i:Nat),((List.replicate n z.toList).flatten)[i]?=if i<n*z.size then some (z[i % z.size]!) else none:=by
  intro n;induction n with
  |zero=>intro i;simp
  |succ n J=>
   intro i;rw[List.replicate_succ,acI];by_cases u:i<z.size
   .rw[xd (by simpa using u),acw u,cA (by rw[aaP];omega)];simp [u]
   .rw[aao (by simpa using u),J,ab3];have E:(i-z.size<n*z.size)↔(i<(n+1)*z.size):=by rw[aaP];omega
    have I:(i-z.size) % z.size=i % z.size:=(Nat.mod_eq_sub_mod oM).symm;rw[I];by_cases D:i-z.size<n*z.size
    .rw[cA D,cA (E.1 D)]
    .rw[bt D,bt (fun q=>D (E.2 q))]
 refine abn fun i=>?_;rw[key];simp only[Builtin.zeroCells,acx,Array.toList_range,aaS];by_cases u:i<n*z.size
 .rw[cA u,adv u];rfl
 .rw[bt u,aaM (by rw[acJ];omega)];rfl
def rY{H:d7}(hW:WR base w0 φ H.bs w){ts:List TypeId}{e size E n:Nat}(he:ts.head?.bind (F8 P)=some e)(hs:D3 P e=some size)(hb:Q2 P e=some E)
  (hz:N3 P e=some z) (b6:E≠0) (b5:size≠0) (h:P5 P H size z (ts[1]?) (.int kx m)=some (n,xs)) (hx:VR φ (.int kx m) x'):
  ∃xs',VRs φ xs xs'/\xs'.length=n*size/\∀I,Cls base w0 φ H.bs w I->∀bs u D ty,((u+n)*E<=140737488355328\/n=0)->(n=0->u<=D)->
   (u+n<=D->(Builtin.append_ ts.toArray ty #[.slice bs u D,x']).run P I=(match bs with
    |some a=>(storeCells (a.add (u*size)) xs').run P I
    |none=> .ok () I).andThen fun _ w2=> .ok (.slice bs (u+n) D) w2)/\
   (¬u+n<=D->∀old:LV,(∀w2,Cls base w0 φ H.bs w w2->(Builtin.firstCells size u (.slice bs u D)).run P w2= .ok old.toArray w2)->
    ∃k rest,rest.length=k*size/\(Builtin.append_ ts.toArray ty #[.slice bs u D,x']).run P I=
     .ok (.slice (some ⟨I.heap.size,0,none⟩) (u+n) (u+n+k)) (I.drew.alloc (.cells (old++xs'++rest).toArray e))):=by
 obtain⟨t,ts,rfl⟩:∃t r,ts=t::r:=by cases ts with
  |nil=>simp at he
  |cons t r=>exact⟨t,r,rfl⟩
 have hu:=Y6 (by simpa using he);obtain⟨i,hi,a4⟩:∃i,P.info? e=some i/\i.bytes=E:=by
  unfold Q2 at hb;cases hi:P.info? e with
  |none=>simp [hi]at hb
  |some i=>simp [hi]at hb;exact⟨i,rfl,hb⟩
 cases hx;obtain⟨xt,kn,U,hd,rfl,hm,rfl,rfl⟩:∃xt kn,ts[0]?=some xt/\P.underlying xt=some (.int kn)/\kx= .i64/\0<=m/\n=m.toNat/\xs=(List.replicate m.toNat z).flatten:=by
  unfold P5 at h;split at h
  next hv=>cases hv
  next hv=>cases hv
  .rename_i kn m' hd hv;cases hv;split at h
   .rename_i hm;simp only[aaa,aah]at h;simp only[aap]at hd;cases U:ts[0]? with
    |none=>simp [U]at hd
    |some xt=>exact⟨xt,kn,rfl,by simpa [U] using hd,rfl,hm,h.1.symm,h.2.symm⟩
   .cases h
  .cases h
 obtain⟨b7,_,_,b3,a7⟩:=U9 hz w;rw[hs]at a7;cases a7;refine⟨(List.replicate m.toNat z).flatten,VRs.na0 (by simp only[ab6,abX];simp [b3]),by simp,fun I hc bs u D ty J b0=>?_⟩;have h1:(t::ts).toArray[1]?=some xt:=by simpa using U
 have g0:(t::ts).toArray[0]?=some t:=sM;have a6:∀I,(typeInfo e).run P I= .ok i I:=fun I=>by simp [typeInfo,hi]
 have a3:m.toNat*E<=140737488355328:=by
  rcases J with h|h
  .exact abw (aaW _ oM) h
  .rw[h];omega
 have b4:m.toNat<=140737488355328:=by
  have:1<=E:=oM
  calc m.toNat=m.toNat*1:=sM
   _<=m.toNat*E:=acu _ this
   _<=_:=a3
 have wm:IntKind.i64.wrap m=m:=wrap_small m oM oM;have c0:¬m<0:=oM;have a8:¬m*(i.bytes:Int)>2 ^ 48:=by
  rw[a4];have e1:m*(E:Int)=((m.toNat*E:Nat):Int):=by rw[Int.natCast_mul,abE hm]
  rw[e1];omega
 have X:∀I,(if m.toNat*z.length=0 then(pure #[]:Sem (Array aet)) else do pure (Builtin.zeroCells (<-zeroValue e).cells m.toNat)).run P I= .ok (List.replicate m.toNat z).flatten.toArray I:=by
  intro I;by_cases hn:m.toNat*z.length=0
  .rw[cA hn];have:(List.replicate m.toNat z).flatten=[]:=aag.1 (by simpa using hn);rw[this];rfl
  .rw[bt hn];obtain⟨zv,a1,W,_,_⟩:=U9 hz I;simp only[aac,a1,kB,aai]
   congr 1
   apply aaC.1;rw[Lf _ (by rw[<-ab3,W];omega),W]
 simp only[Builtin.append_];simp only[g0,h1,ab5,aar,aap,aac,aae hu,aae hd,kB,C4 hs,aai];simp only[aab,aac,asInt,asIntOf,kB,aai,wm,bt c0,a6,bt a8,abd,bF];obtain⟨zv,a1,W,_,_⟩:=U9 hz I.drew;have b2:zv.cells.size=z.length:=by rw[<-W];simp
 refine⟨fun O=>?_,fun O old a5=>?_⟩
 .simp only[cA O,aac,X,kB];cases bs<;>simp
 .have hn:m.toNat≠0:=fun h0=>O (by rw[h0];simpa using b0 h0);have a2:=J.resolve_right hn;have b1:u+m.toNat<=140737488355328:=by
   have:1<=E:=oM
   calc u+m.toNat=(u+m.toNat)*1:=sM
    _<=(u+m.toNat)*E:=acu _ this
    _<=_:=a2
  have c1:¬(((u+m.toNat:Nat):Int)>IntKind.i64.max/\(True\/i.bytes=0)):=by rintro⟨h,_⟩;simp at h;omega
  have c2:¬Builtin.nextslicecap (u+m.toNat) D*i.bytes>2 ^ 48:=by
   have:=growslice_fits (need:=u+m.toNat) (old:=D) (bytes:=E) oM a2;rw[a4];omega
  have a9:(choose (Question.appendCap (u+m.toNat) D e)).run P I= .ok (u+m.toNat+I.tape I.drawn (.appendCap (u+m.toNat) D e) % (2 ^ 63-(u+m.toNat))) I.drew:=by
   rw[aep,bt (by simp [Question.forced])];rfl
  simp only[bt O,aac,a6,kB,bt c1,bt c2,adL,a9,a5 _ hc.drew,X,a1,newRow,newObj,Sem.run,aai];generalize I.tape I.drawn (.appendCap (u+m.toNat) D e) % (2 ^ 63-(u+m.toNat))=k;refine⟨k,(Builtin.zeroCells zv.cells (u+m.toNat+k-(u+m.toNat))).toList,?_,?_⟩
  .rw[ab3,jn,b2];congr 1;omega
  .have e1:old.toArray++(List.replicate m.toNat z).flatten.toArray++Builtin.zeroCells zv.cells (u+m.toNat+k-(u+m.toNat))=(old++(List.replicate m.toNat z).flatten++(Builtin.zeroCells zv.cells (u+m.toNat+k-(u+m.toNat))).toList).toArray:=by
    apply aaC.1;simp
   rw[e1];rfl
def sX{H:d7}(hW:WR base w0 φ H.bs w){ts:List TypeId}{e size I n:Nat}(he:ts.head?.bind (F8 P)=some e)(hs:D3 P e=some size)(hb:Q2 P e=some I)
  (hz:N3 P e=some z) (a9:I≠0) (a6:size≠0) (h:P5 P H size z (ts[1]?) x=some (n,xs)) (hx:VR φ x x'):
  ∃xs',VRs φ xs xs'/\xs'.length=n*size/\∀E,Cls base w0 φ H.bs w E->∀bs u D ty,((u+n)*I<=140737488355328\/n=0)->(n=0->u<=D)->
   (u+n<=D->(Builtin.append_ ts.toArray ty #[.slice bs u D,x']).run P E=(match bs with
    |some a=>(storeCells (a.add (u*size)) xs').run P E
    |none=> .ok () E).andThen fun _ w2=> .ok (.slice bs (u+n) D) w2)/\
   (¬u+n<=D->∀old:LV,(∀w2,Cls base w0 φ H.bs w w2->(Builtin.firstCells size u (.slice bs u D)).run P w2= .ok old.toArray w2)->
    ∃k rest,rest.length=k*size/\(Builtin.append_ ts.toArray ty #[.slice bs u D,x']).run P E=
     .ok (.slice (some ⟨E.heap.size,0,none⟩) (u+n) (u+n+k)) (E.drew.alloc (.cells (old++xs'++rest).toArray e))):=by
 by_cases a1:∃k m,x= .int k m
 .obtain⟨k,m,rfl⟩:=a1;exact rY hW he hs hb hz a9 a6 h hx
 obtain⟨t,ts,rfl⟩:∃t r,ts=t::r:=by cases ts with
  |nil=>simp at he
  |cons t r=>exact⟨t,r,rfl⟩
 have hu:=Y6 (by simpa using he);obtain⟨i,hi,b1⟩:∃i,P.info? e=some i/\i.bytes=I:=by
  unfold Q2 at hb;cases hi:P.info? e with
  |none=>simp [hi]at hb
  |some i=>simp [hi]at hb;exact⟨i,rfl,hb⟩
 obtain⟨O,d,X,U,b4,a4,xs',hv,hl,hf⟩:∃O d,ts[0]?=some O/\P.underlying O=some d/\(d= .string\/∃e',d= .slice e')/\(∀E,(Builtin.lenOf x').run P E= .ok n E)/\
   ∃xs',VRs φ xs xs'/\xs'.length=n*size/\∀E,Cls base w0 φ H.bs w E->(Builtin.firstCells size n x').run P E= .ok xs'.toArray E:=by
  unfold P5 at h;have a3:∀d,(((t::ts)[1]?).bind P.underlying)=some d->∃O,ts[0]?=some O/\P.underlying O=some d:=by
   intro d U;simp only[aap]at U;cases X:ts[0]? with
   |none=>simp [X]at U
   |some O=>exact⟨O,rfl,by simpa [X] using U⟩
  split at h
  next ee a m c U=>obtain⟨O,h1,h2⟩:=a3 _ U;simp only[ZZ,aah]at h;obtain⟨l,hl,rfl,rfl⟩:=h;obtain⟨a',c',l',rfl,e1,e2,e3⟩:=Z4 hW hl hx;exact⟨O,_,h1,h2,.inr ⟨_,rfl⟩,fun E=>rfl,l',e2,e1,fun E hc=>by rw[e3 E hc _ lR,A2 oM]⟩
  .rename_i s U;obtain⟨O,h1,h2⟩:=a3 _ U;split at h
   .rename_i b5;simp only[aaa,aah]at h;obtain⟨rfl,rfl⟩:=h;cases hx;refine⟨O,_,h1,h2,.inl rfl,fun E=>rfl,s.data.toList.map U2,VRs.map _ _ _ (fun b _=> .int _ _),by subst b5;simp,fun E _=>?_⟩;simp only[Builtin.firstCells,aai]
    congr 1
    have:s.extract 0 s.size=s:=sM;rw[this];apply aaC.1;simp only[acx];rfl
   .cases h
  .exact absurd ⟨_,_,rfl⟩ a1
  .cases h
 refine⟨xs',hv,hl,fun E hc bs u D ty W b2=>?_⟩;have h1:(t::ts).toArray[1]?=some O:=by simpa using X
 have g0:(t::ts).toArray[0]?=some t:=sM;have b7:(typeInfo e).run P E= .ok i E:=by simp [typeInfo,hi]
 obtain⟨zv,b9,b8,c0,a8⟩:=U9 hz E.drew;have b6:zv.cells.size=size:=by
  rw[hs]at a8;cases a8;rw[<-b8];simp
 simp only[Builtin.append_];simp only[g0,h1,ab5,aar,aap,aac,aae hu,aae U,kB,C4 hs,aai,
  ]
 clear U;rcases b4 with rfl|⟨_,rfl⟩
 all_goals
  simp only[bF,a4,aby,aab,aac,kB];refine⟨fun J=>?_,fun J old a5=>?_⟩
  .simp only[cA J,aac,hf E hc,kB];cases bs<;>simp
  .have hn:n≠0:=fun h0=>J (by subst h0;simpa using b2 rfl);have a2:=W.resolve_right hn;have b3:u+n<=140737488355328:=by
    have:1<=I:=oM
    calc u+n=(u+n)*1:=sM
     _<=(u+n)*I:=acu _ this
     _<=_:=a2
   have c1:¬(((u+n:Nat):Int)>IntKind.i64.max/\(False\/i.bytes=0)):=by rintro⟨h,_⟩;simp at h;omega
   have c2:¬Builtin.nextslicecap (u+n) D*i.bytes>2 ^ 48:=by
    have:=growslice_fits (need:=u+n) (old:=D) (bytes:=I) oM a2;rw[b1];omega
   have a7:(typeInfo e).run P E.drew= .ok i E.drew:=by simp [typeInfo,hi]
   have b0:(choose (Question.appendCap (u+n) D e)).run P E= .ok (u+n+E.tape E.drawn (.appendCap (u+n) D e) % (2 ^ 63-(u+n))) E.drew:=by
    rw[aep,bt (by simp [Question.forced])];rfl
   simp only[bt J,aac,b7,kB,bt c1,bt c2,adL,b0,a7,a5 _ hc.drew,hf _ hc.drew,b9,newRow,newObj,Sem.run,aai];generalize E.tape E.drawn (.appendCap (u+n) D e) % (2 ^ 63-(u+n))=k;refine⟨k,(Builtin.zeroCells zv.cells (u+n+k-(u+n))).toList,?_,?_⟩
   .rw[ab3,jn,b6];congr 1;omega
   .have e1:old.toArray++xs'.toArray++Builtin.zeroCells zv.cells (u+n+k-(u+n))=(old++xs'++(Builtin.zeroCells zv.cells (u+n+k-(u+n))).toList).toArray:=by
     apply aaC.1;simp
    rw[e1];rfl
end
def I0(w:World)(g:Nat)(o:Obj):World:={w with heap:=w.heap.setIfInBounds g o}
section
variable{P:Program}{base:Bs}{w0:World}{φ:List Loc}{S:List Blk}{w:World}
def I8(w:World)(g:Nat)(o:Obj)(h:g<w.heap.size):(I0 w g o).heap[g]?=some o:=by simp [I0,h]
def bP(w:World)(g j:Nat)(o:Obj)(h:g≠j):(I0 w g o).heap[j]?=w.heap[j]?:=by simp [I0,h]
def sK(w:World)(g:Nat)(o h:Obj):I0 (I0 w g o) g h=I0 w g h:=by simp [I0]
def ci(w:World)(g:Nat)(o:Obj):But w (I0 w g o) (some g):=⟨by simp [I0],fun j _ h=>bP w g j o (fun e=>h (by rw[e]))⟩
def U1{w:World}{g:Nat}(h:Bel base.pr w0 w)(z:¬base.pr g):Bel base.pr w0 (I0 w g o):=
 ⟨h.os,h.tape,h.output,by simpa [I0] using h.size,fun k u=>by rw[bP w g k o (fun q=>z (q▸u))];exact h.block k u⟩
def yS{w:World}{g:Nat}(h:w.heap[g]?=some o):I0 w g o=w:=by
 obtain⟨z,u⟩:=gA h;unfold I0;have:w.heap.setIfInBounds g o=w.heap:=by
  apply adz;intro i;rw[aaw];split
  next D=>subst D;simp [z,u]
  .rfl
 rw[this]
def jg{w:World}{g p:Nat}{t:TypeId}(h:w.heap[g]?=some (.cells cs t z))(v:aet):
  w.setCell ⟨g,p,none⟩ v=I0 w g (.cells (cs.setIfInBounds p v) t z):=by
 unfold World.setCell I0
 congr 1
 apply adz;intro i;rw[adg,aaw];by_cases D:g=i
 .subst D;have u:=(gA h).1;simp only[aab,h,aaU,u,acg,bF]
 .simp [D]
def bQ(g o:Nat)(t:TypeId)(u:Nat×Nat):∀(h:LV)(i:Nat)(cs:Array aet)(w:World),w.heap[g]?=some (.cells cs t u)->o+i+h.length<=cs.size->
  (∀p,p<o+i+h.length->w.frozen? ⟨g,p,none⟩=false)->(∀v∈h,v.oneCell'=true)->
  (storeCells ⟨g,o,none⟩ h i).run P w= .ok () (I0 w g (.cells (splice cs.toList (o+i) h).toArray t u))
 |[],i,cs,w,hg,_,_,_=>by
  simp only[storeCells,aai,splice,aa0];rw[yS hg]
 |v::h,i,cs,w,hg,hl,hf,h1=>by
  simp only[A1]at hl hf;have J:w.cell? ⟨g,o+i,none⟩=some cs[o+i]:=by
   unfold World.cell?;simp only[hg,acg,bF];simp
  have z:=hf (o+i) oM;have I:(store ((⟨g,o,none⟩:Addr).add i) v).run P w= .ok () (w.setCell ⟨g,o+i,none⟩ v):=by
   rw[Addr.add_none,run_store P w _ v _ (h1 v sM),J];simp only[z,bF]
  have E:=(gA hg).1;have D:=I8 w g (.cells (cs.setIfInBounds (o+i) v) t u) E;simp only[storeCells,aac,I,kB,jg hg];rw[bQ g o t u h (i+1) _ _ D (by simp;omega) (fun p U=>?_) (fun v O=>h1 v (by simp [O]))]
  .rw[sK];simp only[splice,ady];rw[aa5]
  .have:=hf p oM;rw[<-jg hg,World.frozen?_setCell];exact this
def Q1:∀(xs:LV)(c:LV)(o i:Nat),o+xs.length<=c.length->(splice c o xs)[i]?=if o<=i/\i<o+xs.length then xs[i-o]? else c[i]?
 |[],c,o,i,h=>by simp [splice];omega
 |x::xs,c,o,i,h=>by
  simp only[A1]at h;rw[splice,Q1 xs (c.set o x) (o+1) i (by simp;omega)];simp only[A1,abb];by_cases u:o=i
  .subst u;have:¬(o+1<=o/\o<o+1+xs.length):=oM;simp [this,show o<c.length from oM]
  .by_cases z:o+1<=i/\i<o+1+xs.length
   .rw[cA z,cA oM,show i-o=(i-(o+1))+1 from oM];simp
   .rw[bt z,bt u,bt oM]
def gM:∀(xs c:LV)(o:Nat)(v:aet),v∈splice c o xs->v∈c\/v∈xs
 |[],c,o,v,h=> .inl h
 |x::xs,c,o,v,h=>by
  rcases gM xs (c.set o x) (o+1) v h with h|h
  .rcases acj h with h|h
   .exact .inl h
   .exact .inr (by simp [h])
  .exact .inr (by simp [h])
def WR.alloc{w1:World}(h:WR base w0 φ S w)(D:w1.heap=w.heap)(ho:w1.os=w.os)(ht:w1.tape=w.tape)(hu:w1.output=w.output){c xs rest:LV}{e:TypeId}(W:VRs φ c xs)(E:∀x∈c,x.oneCell'=true):
  WR base w0 (φ++[⟨w.heap.size,0,xs.length+rest.length,sz⟩]) (S++[.cells c true sz]) (w1.alloc (.cells (xs++rest).toArray e))/\
   ∀(k:Nat)(o:Obj),w.heap[k]?=some o->(w1.alloc (.cells (xs++rest).toArray e)).heap[k]?=some o:=by
 have z:∀k,k<w.heap.size->(w1.alloc (.cells (xs++rest).toArray e)).heap[k]?=w.heap[k]?:=fun k I=>by
  rw[abP _ _ _ (by rw[D];exact I),D]
 have u:(w1.alloc (.cells (xs++rest).toArray e)).heap[w.heap.size]?=some (.cells (xs++rest).toArray e):=by
  rw[<-D];exact adb w1 _
 refine⟨h.push (l:=⟨w.heap.size,0,xs.length+rest.length,sz⟩) ⟨by simp [D],fun j hj _=>z j hj⟩ ?_ (fun _=>lR) ?_,fun k o I=>by rw[z k (gA I).1];exact I⟩
 .exact(h.same_heap D ho ht hu).below.alloc (by rw[D];exact h.size) _
 .have O:=Ext.snoc φ ⟨w.heap.size,0,xs.length+rest.length,sz⟩;refine⟨rfl,E,fun i x U=>?_,(by intro hf;cases hf),fun _=>⟨fC h.size,by show c.length<=xs.length+rest.length;rw[W.1];omega,_,e,(0,0),u,by simp,fun i U=>?_⟩⟩
  .obtain⟨y,X,hv⟩:=W.g U;refine⟨y,?_,hv.mono O⟩;unfold World.cell?;simp only[u,acg,bF,aaH];have J:i<xs.length:=(gS X).1;simp [xd J,X]
  .unfold World.frozen?;simp only[u];simp
def cK(P:Program)(base:Bs)(w0:World)(φ:List Loc)(S:List Blk)(low:Nat)(S':List Blk)(w:World)(s:Sem aet)(v:aet):Prop:=
 ∃v' w' φ',s.run P w= .ok v' w'/\Ext φ φ'/\VR φ' v v'/\WR base w0 φ' S' w'/\Fr φ S low w w'
def Fr.of_old{I:World}(h:WR base w0 φ S w)(U:∀(k:Nat)(o:Obj),w.heap[k]?=some o->I.heap[k]?=some o):Fr φ S D w I:=by
 intro b B l _ J O W;have u:=h.blk b B l J W;have:∃o,w.heap[l.blk]?=some o:=by
  by_cases z:B.mine=true
  .have:=(u.lt z).2;exact⟨_,aaj this⟩
  .cases B with
   |dead=>exact absurd rfl O
   |cells c own sz=>
    have:own=false:=by simpa [Blk.mine] using z
    subst this;exact⟨_,aaj (h.size _ u.below)⟩
   |map X=>exact absurd rfl z
   |iter s p=>exact absurd rfl z
 obtain⟨o,E⟩:=this;rw[E,U _ _ E]
def Fr.of_put{D b:Nat}(h:WR base w0 φ S w)(I:S[b]?=some B)(J:φ[b]?=some l)(U:B.mine=true)(O:D<=b):Fr φ S D w (I0 w l.blk o):=by
 intro c C lc hc E hd z;refine bP w _ _ _ ?_;by_cases u:C.mine=true
 .exact h.sep b c B C l lc oM I E U u J z
 .cases C with
  |dead=>exact absurd rfl hd
  |cells cc own sz=>
   have:own=false:=by simpa [Blk.mine] using u
   subst this;have W:=(h.blk c _ lc E z).below;have X:=((h.blk b B l I J).lt U).1;exact fun q=>X (q▸W)
  |map es=>exact absurd rfl u
  |iter s p=>exact absurd rfl u
def FK{t:TypeId}{H H':d7}{a x a' D:aet}(hW:WR base w0 φ H.bs w)(h:sto P t H a x=some H')(ha:VR φ a a')(hx:VR φ x D):
  ∃w',(Instr.storeAt t a' D).run P w= .ok () w'/\WR base w0 φ H'.bs w'/\Fr φ H.bs H'.low w w':=by
 unfold sto at h;split at h
 rotate_left
 .cases h
 rename_i b o;split at h
 rotate_left
 .cases h
 rename_i c sz hg;split at h
 rotate_left
 .cases h
 rename_i I;obtain⟨hs,a4,u⟩:=I;cases h;cases ha with
 |ptr hl=>
  rename_i l;obtain⟨l',a3,a7⟩:=hW.loc hg;rw[hl]at a3;cases a3;obtain⟨h0,J,h1,h2,h3⟩:=a7;obtain⟨hb,a1,cs,tt,fz,hh,b1,a2⟩:=h3 rfl;have X:=hx.cells u;have a6:=X.1;have U:∀v∈D.cells.toList,v.oneCell'=true:=by
   intro v W;obtain⟨i,hi⟩:=adq W;have a8:i<x.cells.toList.length:=by rw[a6];exact(gS hi).1
   have:=X.2 i x.cells.toList[i] v (by simp [a8]) hi;have ho:=aaB.1 u x.cells.toList[i] sM;rw[this.oneCell ho];exact ho
  have a5:=bQ (P:=P) l.blk (l.off+o) tt fz D.cells.toList 0 cs w hh oM (fun p hp=>a2 p oM) U;refine⟨I0 w l.blk (.cells (splice cs.toList (l.off+o+0) D.cells.toList).toArray tt fz),?_,hW.put (l:=l) hg hl rfl (ci w l.blk _) (U1 hW.below hb) ?_,Fr.of_put hW hg hl rfl (abB _ _)⟩
  .have b0:D.cells.toList.length=x.cells.toList.length:=a6.symm;have:D.cells.size=x.cells.toList.length:=by rw[<-b0];simp
   simp only[Instr.storeAt,Instr.sureAddr,storeVar,aac,aai,kB,C4 hs,this,ne_eq,abU,acb];exact a5
  .have O:=(gA hh).1;refine⟨h0,fun v W=>(gM _ _ _ v W).elim (J v) (fun h=>aaB.1 u v h),fun i y hy=>?_,(by intro hf;cases hf),fun _=>⟨hb,by rw[D2];exact a1,_,tt,fz,I8 w _ _ O,by simp [D2];exact b1,fun i hi=>?_⟩⟩
   .rw[Q1 _ _ _ _ a4]at hy;have E:∀j,(I0 w l.blk (.cells (splice cs.toList (l.off+o+0) D.cells.toList).toArray tt fz)).cell? ⟨l.blk,j,none⟩=(splice cs.toList (l.off+o) D.cells.toList)[j]?:=by
     intro j;unfold World.cell?;simp [I8 w _ _ O]
    rw[E,Q1 _ _ _ _ (by have:cs.toList.length=cs.size:=sM;omega)];split at hy
    next a9=>obtain⟨z,hz,W⟩:=X.g hy;refine⟨z,?_,W⟩;rw[cA oM,show l.off+i-(l.off+o)=i-o from oM];exact hz
    .rename_i a9;obtain⟨z,hz,W⟩:=h1 i y hy;refine⟨z,?_,W⟩;rw[bt oM];unfold World.cell? at hz
     simpa [hh] using hz
   .have:=a2 i hi;unfold World.frozen? at this ⊢;simp only[hh]at this;simp only[I8 w _ _ O];exact this
def jw{l:LV}(h:l.all Ve.na0=true):∀x∈l,x.oneCell'=true:=fun x u=>by
 have:=aaB.1 h x u;unfold Ve.na0 at this;split at this<;>first|rfl|cases this
def T5(h:WR base w0 φ S w):(φ++[l])[S.length]?=some l:=by rw[<-h.len];simp
def dS{H:d7}(z:WR base w0 φ H.bs w){s:Sem aet}{e:TypeId}{w1:World}(I:w1.heap=w.heap)(J:w1.os=w.os)(U:w1.tape=w.tape)(W:w1.output=w.output)
  (hx:VRs φ c xs) (h:∀x∈c,x.oneCell'=true) (O:s.run P w= .ok v' (w1.alloc (.cells (xs++rest).toArray e))) (X:VR (φ++[⟨w.heap.size,0,xs.length+rest.length,sz⟩]) v v'):
  cK P base w0 φ H.bs u (H.push (.cells c true sz)).bs w s v:=by
 obtain⟨D,E⟩:=z.alloc (e:=e) (rest:=rest) (sz:=sz) I J U W hx h;exact⟨v',_,_,O,Ext.snoc _ _,X,D,Fr.of_old z E⟩
def wH{H:d7}(D:WR base w0 φ H.bs w){t:TypeId}(J:N3 P t=some z)(h:Nat):
  cK P base w0 φ H.bs h (H.push (.cells z true 1)).bs w (Instr.alloc t true (.tuple #[])) (.pointer (some ⟨H.n,0,none⟩)):=by
 obtain⟨O,E,I,u,U⟩:=U9 J w;subst I;refine dS D (w1:=w) (xs:=O.cells.toList) (rest:=[]) (e:=t) rfl rfl rfl rfl (VRs.na0 u) (jw u) (v':= .pointer (some ⟨w.heap.size,0,none⟩)) ?_ ?_
 .simp only[Instr.alloc,aac,E,kB,newVar,newRow,newObj,Sem.run,aai,aaq,aa0];rfl
 .exact VR.ptr (l:=⟨w.heap.size,0,_,1⟩) (o:=0) (T5 D)
def DF{H:d7}(E:WR base w0 φ H.bs w){t:TypeId}(u:VR φ x D)(h:x.cells.toList.all oC=true)(z:Nat):
  cK P base w0 φ H.bs z (H.push (.cells x.cells.toList true 1)).bs w (Instr.box t D) (.pointer (some ⟨H.n,0,none⟩)):=by
 refine dS E (w1:=w) (xs:=D.cells.toList) (rest:=[]) (e:=t) rfl rfl rfl rfl (u.cells h) (fun x u=>aaB.1 h x u) (v':= .pointer (some ⟨w.heap.size,0,none⟩)) ?_ ?_
 .simp only[Instr.box,aac,newVar,newRow,newObj,Sem.run,aai,kB,aaq,aa0];rfl
 .exact VR.ptr (l:=⟨w.heap.size,0,_,1⟩) (o:=0) (T5 E)
def QJ(z:LV)(n:Nat)(E:z.length≠0):((List.range (n*z.length)).map fun i=>z.toArray[i % z.toArray.size]!)=(List.replicate n z).flatten:=by
 induction n with
 |zero=>simp
 |succ n u=>
  rw[adZ,List.range_add,abg,u,List.replicate_succ',List.flatten_append]
  congr 1
  simp only[acQ,acI,adl,aaq];apply List.ext_getElem
  .simp
  .intro i h D;simp only[aa7,acJ]at h;simp only[adU,List.getElem_range,Function.comp_apply,adK];rw[Nat.mul_add_mod_self_right,acw h];simp [h]
def xH:∀{u:List (Nat×aet)}{cs l:LV},V7 z cs u=some l->(∀x∈cs,x.oneCell'=true)->(∀p∈u,∀x∈p.2.cells.toList,x.oneCell'=true)->∀x∈l,x.oneCell'=true:=by
 intro u;induction u with
 |nil=>intro cs l h D _;simp only[V7,aaa]at h;subst h;exact D
 |cons p u O=>
  intro cs l h D E;obtain⟨i,v⟩:=p;simp only[V7]at h;split at h
  .cases h
  .split at h
   .cases h
   .exact O h (fun x J=>(gM _ _ _ x J).elim (D x) (E (i,v) sM x)) (fun p I=>E p (by simp [I]))
def mu{H H':d7}(hW:WR base w0 φ H.bs w){t:TypeId}(h:T7 P H t u E=some (v,H'))(hp:kJ φ E D)(a1:Nat):
  cK P base w0 φ H.bs a1 H'.bs w (Instr.buildSlice t u D.toArray) v:=by
 unfold T7 at h;split at h
 rotate_left
 .cases h
 rename_i e he;have hu:=Y6 he;split at h
 rotate_left
 .cases h
 rename_i z hz;split at h
 .cases h
 rename_i hb;split at h
 rotate_left
 .cases h
 rename_i cs U;cases h;obtain⟨I,h1,h2,h3,h4⟩:=U9 hz w;subst h2;have W:I.cells.toList.length≠0:=fun h=>hb (.inl h);have a2:I.cells.size=I.cells.toList.length:=sM;obtain⟨cs',X,e2⟩:=gC U (φ:=φ) (cs':=(List.replicate u I.cells.toList).flatten) (VRs.na0 (by
  simp only[ab6,abX];simp [h3])) hp
 refine dS hW (w1:=w) (xs:=cs') (rest:=[]) (e:=e) rfl rfl rfl rfl e2 (xH U (jw (by simp only[ab6,abX];simp [h3])) (fun p hp=>by
   have:=(adM _).mp (fun h=>hb (.inr (.inr h)));exact fun x hx=>aaB.1 (aaB.1 this p hp) x hx)) (v':= .slice (some ⟨w.heap.size,0,none⟩) u u) ?_ ?_
 .have J:(Array.range (u*I.cells.toList.length)).map (fun i=>I.cells[i % I.cells.size]!)=(List.replicate u I.cells.toList).flatten.toArray:=by
   apply aaC.1;rw[<-QJ I.cells.toList u W];simp
  have c1:¬u*I.cells.toList.length>2 ^ 24:=oM;by_cases O:u*I.cells.toList.length=0
  .have:u=0:=by
    rcases ad8.1 O with h|h
    .exact h
    .exact absurd h W
   subst this;simp only[acX,adl]at X;simp only[Instr.buildSlice,aac,aae hu,kB,C4 h4,bt c1,O,aab,aai];simp only[adN,ad9,X,aac,newRow,newObj,Sem.run,aai,kB,aaq];rfl
  .simp only[Instr.buildSlice,aac,aae hu,kB,C4 h4,bt c1,bt O,h1,aai,J,X,newRow,newObj,Sem.run,aaq];rfl
 .exact VR.exact (l:=⟨w.heap.size,0,_,_⟩) (o:=0) (T5 hW)
def oI{H H':d7}(hW:WR base w0 φ H.bs w){t:TypeId}(h:P9 P H t x y=some (v,H'))(hx:VR φ x x')(hy:VR φ y y')(a5:Nat):
  cK P base w0 φ H.bs a5 H'.bs w (Instr.makeSlice t x' y') v:=by
 unfold P9 at h;split at h
 rotate_left
 .cases h
 rename_i e k n k' m he;have hu:=Y6 he;split at h
 rotate_left
 .cases h
 rename_i z a3 hz E;split at h
 rotate_left
 .cases h
 rename_i J;obtain⟨a1,a8,a9,a6,a7⟩:=J;cases h;cases hx;cases hy;obtain⟨u,h1,h2,h3,h4⟩:=U9 hz w;subst h2;obtain⟨i,hi,U⟩:∃i,P.info? e=some i/\i.bytes=a3:=by
  unfold Q2 at E;cases hi:P.info? e with
  |none=>simp [hi]at E
  |some i=>simp [hi]at E;exact⟨i,rfl,E⟩
 have X:(typeInfo e).run P w= .ok i w:=by simp [typeInfo,hi]
 have wn:IntKind.i64.wrap n=n:=wrap_small n oM oM;have wm:IntKind.i64.wrap m=m:=wrap_small m oM oM;have D:(List.replicate m.toNat u.cells.toList).flatten=(List.replicate n.toNat u.cells.toList).flatten++(List.replicate (m.toNat-n.toNat) u.cells.toList).flatten:=by
  rw[<-List.flatten_append,List.replicate_append_replicate]
  congr 2
  omega
 have W:((List.replicate n.toNat u.cells.toList).flatten.length+(List.replicate (m.toNat-n.toNat) u.cells.toList).flatten.length)=m.toNat*u.cells.toList.length:=by
  rw[<-ib,<-D];simp
 refine dS hW (w1:=w) (xs:=(List.replicate n.toNat u.cells.toList).flatten) (rest:=(List.replicate (m.toNat-n.toNat) u.cells.toList).flatten) (e:=e) rfl rfl rfl rfl
  (VRs.na0 (by simp only[ab6,abX];simp [h3])) (jw (by simp only[ab6,abX];simp [h3])) (v':= .slice (some ⟨w.heap.size,0,none⟩) n.toNat m.toNat) ?_ ?_
 .rw[<-D];have c1:¬(m<0\/(i.bytes:Int)*m>2 ^ 48):=by rw[U];omega
  have c2:¬((decide (m<0)||decide ((i.bytes:Int)*m>2 ^ 48)||decide (n<0)||decide (n>m))=true):=by
   rw[U];simp only[aa4,xo];omega
  have a2:(if m.toNat*u.cells.toList.length=0 then(#[]:Array aet) else u.cells)=u.cells\/m.toNat*u.cells.toList.length=0:=by
   by_cases O:m.toNat*u.cells.toList.length=0
   .exact .inr O
   .left;rw[bt O]
  have I:(Array.range (m.toNat*u.cells.toList.length)).map (fun i=>u.cells[i % u.cells.size]!)=(List.replicate m.toNat u.cells.toList).flatten.toArray:=by
   apply aaC.1;rw[<-QJ u.cells.toList m.toNat a1];simp
  by_cases O:m.toNat*u.cells.toList.length=0
  .have a4:m.toNat=0:=by
    rcases ad8.1 O with h|h
    .exact h
    .exact absurd h a1
   simp only[Instr.makeSlice,aac,aae hu,kB,asInt,asIntOf,aai,X,wn,wm,c2,acb,adL,C4 h4,O,aab,newRow,newObj,Sem.run];simp only[a4,aac,adL,C4 h4,aa8,aab,aai,Sem.run,adN,ad9,acX,adl,bF,kB];rfl
  .simp only[Instr.makeSlice,aac,aae hu,kB,asInt,asIntOf,aai,X,wn,wm,c2,acb,adL,C4 h4,bt O,h1,newRow,newObj,Sem.run,I,abM];rfl
 .refine VR.slice (l:=⟨w.heap.size,0,_,_⟩) (o:=0) (T5 hW) oM ?_;simp only[aaH];rw[W];exact lR
def yy{H:d7}(u:WR base w0 φ H.bs w)(D:∀I,BR base I B ⟨w.heap.size,0,0,0⟩ (w.alloc o)):WR base w0 (φ++[⟨w.heap.size,0,0,0⟩]) (H.push B).bs (w.alloc o)/\∀h,Fr φ H.bs h w (w.alloc o):=by
 refine⟨u.push (l:=⟨w.heap.size,0,0,0⟩) ⟨by simp,fun j E _=>abP _ _ _ E⟩ (u.below.alloc u.size _) (fun _=>lR) (D _),fun h=>Fr.of_old u fun k J z=>?_⟩;rw[abP _ _ _ (gA z).1];exact z
def sB{H:d7}(u:WR base w0 φ H.bs w)(t:TypeId)(h:Nat):
  cK P base w0 φ H.bs h (H.push (.map [])).bs w (Instr.makeMap t none) (.map (some H.n)):=by
 obtain⟨z,D⟩:=yy u (B:= .map []) (o:= .map #[] 0) (fun E=>⟨fC u.size,#[],0,adb w _,rfl,fun i k v m p=>by simp at p⟩);refine⟨.map (some w.heap.size),w.alloc (.map #[] 0),_,?_,Ext.snoc _ _,VR.map (l:=⟨w.heap.size,0,0,0⟩) (T5 u),z,D h⟩;simp only[Instr.makeMap,aac,newObj,Sem.run,kB,aai];rfl
def yD{H:d7}(u:WR base w0 φ H.bs w){t:TypeId}{s:aes}(E:P.underlying t=some .string)(h:Nat):
  cK P base w0 φ H.bs h (H.push (.iter s 0)).bs w (Instr.range t (.string s)) (.pointer (some ⟨H.n,0,none⟩)):=by
 obtain⟨z,D⟩:=yy u (B:= .iter s 0) (o:= .stringIter s 0) (fun I=>⟨fC u.size,rfl,adb w _⟩);refine⟨.pointer (some ⟨w.heap.size,0,none⟩),w.alloc (.stringIter s 0),_,?_,Ext.snoc _ _,VR.ptr (l:=⟨w.heap.size,0,0,0⟩) (o:=0) (T5 u),z,D h⟩;simp only[Instr.range,aac,aae E,kB,aai,newObj,Sem.run];rfl
def gW{w:World}(h:w.heap[r]?=some o)(u:∀c t f,o≠ .cells c t f):(getObj r).run P w= .ok o w:=by
 unfold getObj;simp only[Sem.run,h]
 try (split<;>first|(exfalso;exact u _ _ _ rfl)|rfl)
def kD{w:World}(h:w.heap[r]?=some o)(z:∀c t f,o≠ .cells c t f):(setObj r u).run P w= .ok () (I0 w r u):=by
 unfold setObj;simp only[Sem.run,h];cases o<;>first|rfl|exact absurd rfl (z _ _ _)
def Fe{H H':d7}(I:WR base w0 φ H.bs w)(h:lN H it=some (v,some H'))(hi:VR φ it E)(ty:TypeId):
  cK P base w0 φ H.bs H'.low H'.bs w (Instr.next E true ty) v:=by
 unfold lN at h;split at h
 rotate_left
 .cases h
 rename_i b;split at h
 rotate_left
 .cases h
 rename_i s u O;split at h
 rotate_left
 .simp at h
 rename_i D;simp only[aaa,aah]at h;obtain⟨rfl,rfl⟩:=h;cases hi with
 |ptr W=>
  rename_i l;obtain⟨l',z,J⟩:=I.loc O;rw[W]at z;cases z;obtain⟨hb,X,U⟩:=J;have a1:=(gA U).1;refine⟨.tuple #[.bool true,goInt u,.int .i32 (Utf8.decode s u).1],I0 w l.blk (.stringIter s (u+(Utf8.decode s u).2)),φ,?_,Ext.refl φ,VR.na (by rfl),
   I.put (l:=l) O W rfl (ci w l.blk _) (U1 I.below hb) ⟨hb,X,I8 w _ _ a1⟩,Fr.of_put I O W rfl (abB _ _)⟩
  have hz:l.off+0=0:=oM;rw[hz];simp only[Instr.next,aac,gW U sM,kB,cA D,kD U sM,aai]
def Fd{H:d7}(W:WR base w0 φ H.bs w)(h:lN H it=some (v,none))(hi:VR φ it D)(ty:TypeId):kH P base w0 φ H.bs w (Instr.next D true ty) v:=by
 unfold lN at h;split at h
 rotate_left
 .cases h
 rename_i b;split at h
 rotate_left
 .cases h
 rename_i s J O;split at h
 .simp at h
 rename_i z;simp only[aaa,aah]at h;obtain⟨rfl,_⟩:=h;cases hi with
 |ptr U=>
  rename_i l;obtain⟨l',u,E⟩:=W.loc O;rw[U]at u;cases u;obtain⟨hb,a1,hh⟩:=E;refine⟨.tuple #[.bool false],VR.na (by rfl),fun w' X=>?_⟩;have I:w'.heap[l.blk]?=some (.stringIter s J):=by rw[X.same _ _ l O sM U];exact hh
  have hz:l.off+0=0:=oM;rw[hz];simp only[Instr.next,aac,gW I sM,kB,bt z,aai]
def tW(h:mI k x=true)(n:Nat):Instr.sameBits n x x=true:=by
 unfold mI at h;split at h
 .simp [Instr.sameBits]
 .simp [Instr.sameBits]
 .simp [Instr.sameBits,my]
 .cases h
def yg(h:Y2 u xs=true)(n:Nat):((xs.zip xs).all fun(x,y)=>Instr.sameBits n x y)=true:=by
 induction u generalizing xs with
 |nil=>cases xs with
  |nil=>rfl
  |cons _ _=>cases h
 |cons k u z=>
  cases xs with
  |nil=>cases h
  |cons x xs=>
   simp only[Y2,gk]at h;simp only[ac2,aaE,tW h.1,aaL];exact z h.2
def yb{kt:TypeId}(h:aH P kt k=true):Instr.sameBits 10000 k k=true:=by
 unfold aH at h;split at h
 .show Instr.sameBits (9999+1) _ _=true;simp only[Instr.sameBits,beq_self_eq_true,aaL];exact yg h _
 next E z u=>obtain⟨D,rfl⟩:=lk (V0 z).2 u;simp only[Y2,aa9]at h;exact tW h _
 .cases h
def oJ{H H':d7}{t:TypeId}(I:WR base w0 φ H.bs w)(h:aL P H t m k v=some H')(hm:VR φ m m')(hk:VR φ k E)(hv:VR φ v v'):
  ∃w',(Instr.mapUpdate t m' E v').run P w= .ok () w'/\WR base w0 φ H'.bs w'/\Fr φ H.bs H'.low w w':=by
 unfold aL at h;split at h
 rotate_left
 .cases h
 rename_i kt et a8;have hu:=uD a8;split at h
 rotate_left
 .cases h
 rename_i z;obtain rfl:=nJ z hk;split at h
 rotate_left
 .cases h
 rename_i b;split at h
 rotate_left
 .cases h
 rename_i es hg;cases hm with
 |map hl=>
  rename_i l;obtain⟨l',a4,a7⟩:=I.loc hg;rw[hl]at a4;cases a4;obtain⟨hb,u,W,X,U,h3⟩:=a7;have a5:=(gA X).1;split at h
  .rename_i j va hf;cases h;obtain⟨r',f1,f2⟩:=cq (φ:=φ) z hf (by simpa using U.symm) (fun j a m p q=>h3 j a.1 a.2 m p q);cases r' with
   |none=>exact f2.elim
   |some q=>
    obtain⟨j',v2⟩:=q;obtain⟨rfl,g2,g3,g4⟩:=f2;have a2:j<u.size:=by rw[U];exact(gS g3).1
    obtain⟨en,J⟩:∃en,u[j]?=some en:=⟨u[j],by simp [a2]⟩
    have a3:en.key=E:=by
     have:u.toList[j]?=some en:=by simpa using J
     rw[this]at g4;simpa using g4
    have O:(Instr.keyThatStays (((u[j]?).map (·.key)).getD E) E).run P w= .ok E w:=by
     rw[J];simp only[aaU,aa6,a3,Instr.keyThatStays];rw[cA (yb z)];rfl
    refine⟨I0 w l.blk (.map (u.modify j fun e=>{e with key:=E,val:=v'}) W),?_,I.put (l:=l) hg hl rfl (ci w l.blk _) (U1 I.below hb) ⟨hb,_,W,I8 w _ _ a5,by simp [U],?_⟩,Fr.of_put I hg hl rfl (abB _ _)⟩
    .simp only[Instr.mapUpdate,aac,aae hu,kB,gW X sM,bL z,f1,O,kD X sM]
    .intro i k1 v1 m1 p q;rw[abb]at p;have D:(u.modify j fun e=>{e with key:=E,val:=v'})[i]?=some m1:=by rw[abj]at q;exact q
     rw[adg]at D;by_cases a1:j=i
     .subst a1;rw[cA rfl]at p D;split at p
      .cases p;rw[J]at D;simp only[aaU,aaa]at D;subst D;exact⟨hk,hv⟩
      .cases p
     .rw[bt a1]at p D;exact h3 i k1 v1 m1 p (by simpa using D)
  .rename_i hf;cases h;obtain⟨r',f1,f2⟩:=cq (φ:=φ) z hf (by simpa using U.symm) (fun j a m p q=>h3 j a.1 a.2 m p q);cases r' with
   |some q=>exact f2.elim
   |none=>
    refine⟨I0 w l.blk (.map (u.push {key:=E,val:=v',born:=W}) (W+1)),?_,I.put (l:=l) hg hl rfl (ci w l.blk _) (U1 I.below hb) ⟨hb,_,_,I8 w _ _ a5,by simp [U],?_⟩,Fr.of_put I hg hl rfl (abB _ _)⟩
    .simp only[Instr.mapUpdate,aac,aae hu,kB,gW X sM,bL z,f1,kD X sM]
    .intro i k1 v1 m1 p q;have D:(u.push {key:=E,val:=v',born:=W})[i]?=some m1:=by rw[abj]at q;exact q
     rw[Array.getElem?_push]at D;by_cases hi:i=u.size
     .rw[cA hi]at D;cases D;rw[hi,U]at p;simp at p;obtain⟨rfl,rfl⟩:=p;exact⟨hk,hv⟩
     .rw[bt hi]at D;have a6:i<es.length:=oN ((gA D).1);rw[xd a6]at p;exact h3 i k1 v1 m1 p (by simpa using D)
  .cases h
end
section
variable{P:Program}{base:Bs}{w0:World}{φ:List Loc}{S:List Blk}{w:World}
def WR.move(h:WR base w0 φ S w){b:Nat}{l l2:Loc}(hb:S[b]?=some B)(hl:φ[b]?=some l)(hm:B.mine=true)
  (hw:But w w' (some l.blk)) (a1:Bel base.pr w0 w') (he:l2.blk=l.blk) (hB:BR base (φ++[l2]) B2 l2 w'):WR base w0 (φ++[l2]) (S.set b .dead++[B2]) w':=by
 have hx:Ext φ (φ++[l2]):=Ext.snoc φ l2;have a4:=(h.blk b B l hb hl).lt hm;have old:∀(c:Nat) C,(S.set b .dead++[B2])[c]?=some C->(c<S.length/\(C= .dead\/(c≠b/\S[c]?=some C)))\/(c=S.length/\C=B2):=by
  intro c C p;by_cases z:c<S.length
  .left
   refine⟨z,?_⟩;rw[xd (by simpa using z),abb]at p;by_cases u:b=c
   .subst u;rw[cA rfl,cA z]at p;exact .inl (by simpa using p.symm)
   .rw[bt u]at p;exact .inr ⟨fun e=>u e.symm,p⟩
  .right
   have:c<(S.set b .dead++[B2]).length:=(gS p).1;simp at this;obtain rfl:c=S.length:=oM;rw[aao sM]at p;simp at p;exact⟨rfl,p.symm⟩
 have J:∀(c:Nat) lc,c<S.length->(φ++[l2])[c]?=some lc->φ[c]?=some lc:=fun c lc hc p=>by rwa [xd (by rw[h.len];exact hc)]at p
 have O:∀lc,(φ++[l2])[S.length]?=some lc->lc=l2:=fun lc p=>by rw[<-h.len]at p;simp at p;exact p.symm
 have a3:∀(c:Nat) C lc,c≠b->S[c]?=some C->C≠ .dead->φ[c]?=some lc->w'.heap[lc.blk]?=w.heap[lc.blk]?:=by
  intro c C lc u p hd q;by_cases E:C.mine=true
  .exact hw.2 _ ((h.blk c C lc p q).lt E).2 (by simp only[ne_eq,aaa];exact h.sep b c B C l lc (fun e=>u e.symm) hb p hm E hl q)
  .cases C with
   |dead=>exact absurd rfl hd
   |cells cc own sz=>
    have:own=false:=by simpa [Blk.mine] using E
    subst this;have:=(h.blk c _ lc p q).below;exact hw.2 _ (h.size _ this) (by simp only[ne_eq,aaa];exact fun q=>((h.blk b B l hb hl).lt hm).1 (q▸this))
   |map es=>exact absurd rfl E
   |iter s p=>exact absurd rfl E
 refine⟨by simp [h.len],a1,fun k hk=>aaF (h.size k hk) hw.1,fun c C lc p q=>?_,fun c X C C' lc I a2 p p' m m' q q'=>?_⟩
 .rcases old c C p with⟨z,rfl|⟨u,hS⟩⟩|⟨rfl,rfl⟩
  .trivial
  .have q:=J c lc z q;by_cases hd:C= .dead
   .subst hd;trivial
   .exact(h.blk c C lc hS q).mono hx (a3 c C lc u hS hd q)
  .rw[O lc q];exact hB
 .rcases old c C p with⟨z,rfl|⟨u,hS⟩⟩|⟨rfl,rfl⟩
  .cases m
  .rcases old X C' p' with⟨D,rfl|⟨U,W⟩⟩|⟨rfl,rfl⟩
   .cases m'
   .exact h.sep c X C C' lc I a2 hS W m m' (J c lc z q) (J X I D q')
   .rw[O I q',he];exact h.sep c b C B lc l u hS hb m hm (J c lc z q) hl
  .rcases old X C' p' with⟨D,rfl|⟨U,W⟩⟩|⟨rfl,rfl⟩
   .cases m'
   .rw[O lc q,he];exact fun e=>h.sep X b C' B I l U W hb m' hm (J X I D q') hl e.symm
   .exact absurd rfl a2
def jh{size n c:Nat}{a:Option Addr}(h:A6 H size (.slice a n c)=some l):l.length=n*size:=by
 unfold A6 at h;split at h
 next e=>cases e;cases h;simp
 .rename_i e;cases e;split at h
  next u=>cases h;subst u;simp
  .split at h
   .split at h
    .cases h;simp;omega
    .cases h
   .cases h
 .cases h
def ji{H:d7}(D:WR base w0 φ H.bs w){size n c:Nat}{a:Option Addr}(h:A6 H size (.slice a n c)=some l):∀x∈l,x.oneCell'=true:=by
 unfold A6 at h;split at h
 .cases h;intro x u;cases u
 .split at h
  .cases h;intro x u;cases u
  .split at h
   .rename_i cs own sz E;split at h
    .cases h;obtain⟨l,I,z⟩:=D.loc E;exact fun x u=>z.2.1 x (acn (acM u))
    .cases h
   .cases h
 .cases h
def Dn{H:d7}(J:WR base w0 φ H.bs w){e size n:Nat}(u:D3 P e=some size)(W:N3 P e=some z)(h:P5 P H size z X x=some (n,xs)):(∀x∈xs,x.oneCell'=true)/\xs.length=n*size:=by
 unfold P5 at h;split at h
 .simp only[ZZ,aah]at h;obtain⟨l,E,rfl,rfl⟩:=h;exact⟨ji J E,jh E⟩
 .split at h
  next O=>simp only[aaa,aah]at h;obtain⟨rfl,rfl⟩:=h;subst O;exact⟨fun x U=>by obtain⟨b,_,rfl⟩:=aau.1 U;rfl,by simp⟩
  .cases h
 .split at h
  .simp only[aaa,aah]at h;obtain⟨rfl,rfl⟩:=h;obtain⟨zv,_,_,I,D⟩:=U9 W w;rw[u]at D;cases D;exact⟨jw (by simp only[ab6,abX];simp [I]),by simp⟩
  .cases h
 .cases h
def wM{H:d7}{s x U x' v:aet}(hW:WR base w0 φ H.bs w)(h:A8 P H ts s x=some (v,none))(hs:VR φ s U)(hx:VR φ x x')(ty:TypeId):
  kH P base w0 φ H.bs w (Builtin.append_ ts.toArray ty #[U,x']) v:=by
 unfold A8 at h;split at h
 .cases h
 rename_i e he;split at h
 rotate_left
 .cases h
 rename_i size a6 z a3 W hz;split at h
 .cases h
 rename_i J;split at h
 .cases h
 rename_i n xs I;obtain⟨xs',hv,hl,O⟩:=sX hW he a3 W hz (fun h=>J (.inr h)) (fun h=>J (.inl h)) I hx;have u:∀a m c,n=0->m<=c->U= .slice a m c->VR φ v (.slice a m c)->kH P base w0 φ H.bs w (Builtin.append_ ts.toArray ty #[U,x']) v:=by
  intro a m c D a1 a2 a4;subst D a2;have a5:xs'=[]:=aag.1 (by simpa using hl);subst a5;refine⟨_,a4,fun w' hc=>?_⟩;rw[(O w' hc a m c ty (.inr rfl) (fun _=>a1)).1 oM];cases a<;>simp [storeCells]
 split at h
 .split at h
  next D=>cases h;cases hs;exact u none 0 0 D lR rfl .nilslice
  .split at h<;>simp at h
 .rename_i b o a7 c;split at h
  .rename_i D;cases h;have E:=hs;cases hs with
   |slice0=>exact u _ _ _ D lR rfl E
   |exact X=>exact u _ _ _ D lR rfl E
   |slice X hn hc=>exact u _ _ _ D hn rfl E
  .split at h
   .split at h
    .split at h
     .split at h
      .simp at h
      .split at h<;>simp at h
     .cases h
    .cases h
   .cases h
 .cases h
def Fg{H:d7}(O:WR base w0 φ H.bs w){b o h c size:Nat}{own:Bool}(W:H.g b=some (.cells cs own sz))(z:o+h*size<=cs.length)
  (X:VR φ (.slice (some ⟨b,o,none⟩) h c) D):∃a' u old,D= .slice a' h u/\VRs φ ((cs.drop o).take (h*size)) old/\∀w2,Cls base w0 φ H.bs w w2->(Builtin.firstCells size h D).run P w2= .ok old.toArray w2:=by
 have:A6 H size (.slice (some ⟨b,o,none⟩) h c)=some ((cs.drop o).take (h*size)):=by
  simp only[A6];by_cases E:h=0
  .subst E;simp
  .rw[bt E,W];simp only;rw[cA z]
 obtain⟨a',u,old,e,h1,I,J⟩:=Z4 O this X;exact⟨a',u,old,e,I,fun w2 U=>by rw[J w2 U _ lR,A2 oM]⟩
def wO{H H':d7}{s x s' x' v:aet}(D:WR base w0 φ H.bs w)(h:A8 P H ts s x=some (v,some H'))(hs:VR φ s s')(hx:VR φ x x')(ty:TypeId):
  cK P base w0 φ H.bs H'.low H'.bs w (Builtin.append_ ts.toArray ty #[s',x']) v:=by
 unfold A8 at h;split at h
 .cases h
 rename_i e he;split at h
 rotate_left
 .cases h
 rename_i size e6 z c7 d0 hz;split at h
 .cases h
 rename_i c5;split at h
 .cases h
 rename_i n xs a5;obtain⟨xs',hv,hl,X⟩:=sX D he c7 d0 hz (fun h=>c5 (.inr h)) (fun h=>c5 (.inl h)) a5 hx;obtain⟨W,e3⟩:=Dn D c7 hz a5;split at h
 ·
  split at h
  .simp at h
  rename_i a3;split at h
  rotate_left
  .simp at h
  rename_i a1;simp only[aaa,aah]at h;obtain⟨rfl,rfl⟩:=h;cases hs;obtain⟨k,rest,b6,hr⟩:=(X w D.cls none 0 0 ty (.inl (by simpa using a1)) (fun h=>absurd h a3)).2 oM [] (fun w2 _=>by simp [Builtin.firstCells]);refine dS D (w1:=w.drew) (xs:=xs') (rest:=rest) (e:=e) rfl rfl rfl rfl hv W (v':= .slice (some ⟨w.heap.size,0,none⟩) n (n+k)) (by simpa using hr) ?_;refine VR.slice (l:=⟨w.heap.size,0,_,_⟩) (o:=0) (T5 D) oM ?_;simp only[aaH,hl,b6,<-aaP];exact lR
 .rename_i b o u c;split at h
  .simp at h
  rename_i a3;split at h
  rotate_left
  .cases h
  rename_i a1;split at h
  rotate_left
  .cases h
  rename_i cs own sz hg;split at h
  rotate_left
  .cases h
  rename_i b0;obtain⟨d3,rfl⟩:=b0;have b7:=hs;obtain⟨a',c',old,rfl,a6,a2⟩:=Fg (P:=P) D hg d3 b7;have U:∀x∈(cs.drop o).take (u*sz)++xs,x.oneCell'=true:=by
   intro x hx;obtain⟨l,b2,a8⟩:=D.loc hg;rcases ns.1 hx with hx|hx
   .exact a8.2.1 x (acn (acM hx))
   .exact W x hx
  have d5:old.length=u*sz:=by rw[<-a6.1];simp;omega
  have a4:∀(I:Nat)(S':List Blk),WR base w0 φ S' w->¬u+n<=c'->S'.length=H.bs.length->(∀I,∀w',(∀(k:Nat)(o:Obj),w.heap[k]?=some o->w'.heap[k]?=some o)->Fr φ H.bs I w w')->
    cK P base w0 φ H.bs I (S'++[.cells ((cs.drop o).take (u*sz)++xs) true sz]) w (Builtin.append_ ts.toArray ty #[.slice a' u c',x']) (.slice (some ⟨H.n,0,none⟩) (u+n) (u+n+1)):=by
   intro I S' b9 d4 c4 d1;obtain⟨k,rest,b6,hr⟩:=(X w D.cls a' u c' ty (.inl a1) (fun h=>absurd h a3)).2 d4 old a2;obtain⟨h1,h2⟩:=b9.alloc (w1:=w.drew) (c:=(cs.drop o).take (u*sz)++xs) (xs:=old++xs') (rest:=rest) (e:=e) (sz:=sz) rfl rfl rfl rfl (a6.append hv) U;refine⟨_,_,_,hr,Ext.snoc _ _,?_,h1,d1 I _ h2⟩;refine VR.slice (l:=⟨w.heap.size,0,(old++xs').length+rest.length,sz⟩) (o:=0) ?_ oM ?_
   .have:=T5 b9 (l:=⟨w.heap.size,0,(old++xs').length+rest.length,sz⟩);rw[c4]at this;exact this
   .simp only[aaH,ib,d5,hl,b6,<-aaP];exact lR
  split at h
  .rename_i a9;subst a9;simp only[aaa,aah]at h;obtain⟨rfl,rfl⟩:=h;refine a4 _ H.bs D ?_ rfl (fun I w' hk=>Fr.of_old D hk);cases b7 with
   |slice0=>omega
   |exact=>omega
  .rename_i a9;split at h
   rotate_left
   .cases h
   rename_i c6;subst c6;simp only[aaa,aah]at h;obtain⟨rfl,rfl⟩:=h;by_cases J:u+n<=c'
   ·
    cases b7 with
    |slice0=>omega
    |exact=>exact absurd rfl a9
    |slice b3 hn hc=>
     rename_i l;obtain⟨l',b2,a8⟩:=D.loc hg;rw[b3]at b2;cases b2;obtain⟨h0,c9,h1,h2,h3⟩:=a8;obtain⟨hb,e4,E,tt,fz,hh,e5,c3⟩:=h3 rfl;rw[h0]at hc;have d6:o+u*sz+n*sz<=l.cap:=by
      have:(u+n)*sz<=c'*sz:=aaW _ J;rw[aaP]at this;omega
     have b5:∀v∈xs',v.oneCell'=true:=by
      intro v e2;obtain⟨i,hi⟩:=adq e2;have d2:i<xs.length:=by rw[hv.1];exact(gS hi).1
      have:=hv.2 i xs[i] v (by simp [d2]) hi;have ho:=W xs[i] sM;rw[this.oneCell ho];exact ho
     have e1:=bQ (P:=P) l.blk (l.off+o+u*sz) tt fz xs' 0 E w hh oM (fun p hp=>c3 p oM) b5;have b4:=(gA hh).1;refine⟨.slice (some ⟨l.blk,l.off+o,none⟩) (u+n) c',I0 w l.blk (.cells (splice E.toList (l.off+o+u*sz+0) xs').toArray tt fz),φ++[⟨l.blk,l.off+o,l.cap-o,sz⟩],?_,Ext.snoc _ _,?_,?_,?_⟩
     .rw[(X w D.cls _ u c' ty (.inl a1) (fun h=>absurd h a3)).1 J];simp only[Addr.add_none,e1,kB]
     .refine VR.slice (l:=⟨l.blk,l.off+o,l.cap-o,sz⟩) (o:=0) ?_ J ?_
      .have:=T5 D (l:=⟨l.blk,l.off+o,l.cap-o,sz⟩)
       simpa [d7.n,d7.put] using this
      .simp only[aaH];omega
     .refine D.move hg b3 rfl (ci w l.blk _) (U1 D.below hb) (l2:=⟨l.blk,l.off+o,l.cap-o,sz⟩) rfl ?_;have c8:=Ext.snoc φ ⟨l.blk,l.off+o,l.cap-o,sz⟩;have a7:∀j,(I0 w l.blk (.cells (splice E.toList (l.off+o+u*sz+0) xs').toArray tt fz)).cell? ⟨l.blk,j,none⟩=(splice E.toList (l.off+o+u*sz) xs')[j]?:=by
       intro j;unfold World.cell?;simp [I8 w _ _ b4]
      have c0:l.off+o+u*sz+xs'.length<=E.toList.length:=by
       have:E.toList.length=E.size:=sM;omega
      refine⟨rfl,U,fun i y hy=>?_,(by intro hf;cases hf),fun _=>⟨hb,?_,_,tt,fz,I8 w _ _ b4,?_,fun i hi=>?_⟩⟩
      .rw[a7,Q1 _ _ _ _ c0];have b1:((cs.drop o).take (u*sz)).length=u*sz:=by simp;omega
       by_cases hi:i<u*sz
       .rw[xd (by rw[b1];exact hi),aaO,cA hi,aaA]at hy;obtain⟨z,O,b8⟩:=h1 _ y hy;refine⟨z,?_,b8.mono c8⟩;rw[bt (by show¬(l.off+o+u*sz<=l.off+o+i/\_);omega)];unfold World.cell? at O;simp only[hh,acg,bF]at O;show E.toList[l.off+o+i]?=some z;rw[abj,aa5];exact O
       .rw[aao (by rw[b1];omega),b1]at hy;obtain⟨z,O,b8⟩:=hv.g hy;refine⟨z,?_,b8.mono c8⟩;have e7:i-u*sz<xs'.length:=(gS O).1;rw[cA (by show l.off+o+u*sz<=l.off+o+i/\l.off+o+i<l.off+o+u*sz+xs'.length;omega)];show xs'[l.off+o+i-(l.off+o+u*sz)]?=some z;rw[show l.off+o+i-(l.off+o+u*sz)=i-u*sz from oM];exact O
      .show((cs.drop o).take (u*sz)++xs).length<=l.cap-o;simp only[ib,abC,abc,e3];omega
      .show l.off+o+(l.cap-o)<=_;simp [D2];omega
      .have:=c3 i (by have:i<l.off+o+(l.cap-o):=hi;omega);unfold World.frozen? at this ⊢;simp only[hh]at this;simp only[I8 w _ _ b4];exact this
     .exact Fr.of_put D hg b3 rfl (abB _ _)
   .exact a4 _ (H.bs.set b .dead) (D.kill b) J sM (fun I w' hk=>Fr.of_old D hk)
 .cases h
def xm{H:d7}(hW:WR base w0 φ H.bs w){ts:List TypeId}{e size:Nat}(I:ts.head?.bind (F8 P)=some e)(hs:D3 P e=some size)
  (hx:A6 H size (.slice sa h O)=some U) (hv:VR φ (.slice sa h O) J):
  ∃xs',VRs φ (U.take (min h dn*size)) xs'/\∀u,Cls base w0 φ H.bs w u->∀D E ty,(Builtin.copy_ ts.toArray ty #[.slice D dn E,J]).run P u=
   ((match D with|some a=>(storeCells a xs').run P u|none=> .ok () u).andThen fun _ w2=> .ok (goInt (min h dn:Nat)) w2):=by
 obtain⟨t,ts,rfl⟩:∃t r,ts=t::r:=by cases ts with
  |nil=>simp at I
  |cons t r=>exact⟨t,r,rfl⟩
 have hu:=Y6 (by simpa using I);obtain⟨a',c',l',rfl,h1,X,h3⟩:=Z4 (P:=P) hW hx hv;refine⟨l'.take (min h dn*size),X.take _,fun u hc D E ty=>?_⟩;have W:(t::ts).toArray[0]?=some t:=sM;have hf:=h3 u hc (min h dn) (ack _ _);have z:Nat.min h dn=min h dn:=rfl;simp only[Builtin.copy_];simp only[W,ab5,aar,aap,aac,aae hu,kB,C4 hs,Builtin.lenOf,aai,z,hf];cases D with
 |none=>simp only[aai,kB]
 |some a=>simp only[aac,aai]
def DY{H:d7}{d s z U v:aet}(W:WR base w0 φ H.bs w)(h:nr P H ts d s=some (v,none))(hd:VR φ d z)(hs:VR φ s U)(ty:TypeId):
  kH P base w0 φ H.bs w (Builtin.copy_ ts.toArray ty #[z,U]) v:=by
 unfold nr at h;split at h
 .cases h
 rename_i e he;split at h
 rotate_left
 .cases h
 rename_i size da dn dc E;split at h
 .cases h
 split at h
 rotate_left
 .cases h
 rename_i sa sn sc;split at h
 rotate_left
 .cases h
 rename_i ys J;split at h
 .rename_i O;cases h;obtain⟨xs',hv,u⟩:=xm (P:=P) W he E (dn:=dn) J hs;have I:xs'=[]:=by have:=hv.1;rw[O]at this;simp at this;exact aag.1 this.symm
  subst I;have D:∃a c,z= .slice a dn c:=by cases hd<;>exact⟨_,_,rfl⟩
  obtain⟨a,c,rfl⟩:=D;refine⟨goInt 0,VR.na (by rfl),fun w' X=>?_⟩;rw[u w' X a c ty,O];cases a<;>simp [storeCells]
 .split at h
  .split at h
   .split at h<;>simp at h
   .cases h
  .cases h
def DZ{H H':d7}{d s d' s' v:aet}(I:WR base w0 φ H.bs w)(h:nr P H ts d s=some (v,some H'))(hd:VR φ d d')(hs:VR φ s s')(ty:TypeId):
  cK P base w0 φ H.bs H'.low H'.bs w (Builtin.copy_ ts.toArray ty #[d',s']) v:=by
 unfold nr at h;split at h
 .cases h
 rename_i e he;split at h
 rotate_left
 .cases h
 rename_i size da dn dc b3;split at h
 .cases h
 split at h
 rotate_left
 .cases h
 rename_i sa sn sc;split at h
 rotate_left
 .cases h
 rename_i ys a1;split at h
 .simp at h
 rename_i h0;split at h
 rotate_left
 .cases h
 rename_i b o;split at h
 rotate_left
 .cases h
 rename_i cs sz hg;split at h
 rotate_left
 .cases h
 rename_i b1;simp only[aaa,aah]at h;obtain⟨rfl,rfl⟩:=h;obtain⟨xs',hv,a5⟩:=xm (P:=P) I he b3 (dn:=dn) a1 hs;have X:(ys.take (min sn dn*size)).length=min sn dn*size:=by
  have:=jh a1;rw[abC,this];exact adt (aaW _ (ack _ _))
 have a8:∃l c,φ[b]?=some l/\d'= .slice (some ⟨l.blk,l.off+o,none⟩) dn c:=by
  cases hd with
  |slice0=>exfalso;omega
  |exact h=>exact⟨_,_,h,rfl⟩
  |slice h=>exact⟨_,_,h,rfl⟩
 obtain⟨l,c,hl,rfl⟩:=a8;obtain⟨l',a4,a7⟩:=I.loc hg;rw[hl]at a4;cases a4;obtain⟨g0,J,h1,h2,h3⟩:=a7;obtain⟨hb,a2,u,tt,fz,hh,a6,a3⟩:=h3 rfl;have D:=ji I a1;have U:∀v∈xs',v.oneCell'=true:=by
  intro v b5;obtain⟨i,hi⟩:=adq b5;obtain⟨x,hx⟩:∃x,(ys.take (min sn dn*size))[i]?=some x:=by
   have a9:i<(ys.take (min sn dn*size)).length:=by rw[hv.1];exact(gS hi).1
   exact⟨_,yv a9⟩
  have ho:=D x (acM (mG hx));rw[(hv.2 i x v hx hi).oneCell ho];exact ho
 have b6:xs'.length=min sn dn*size:=by rw[<-hv.1];exact X
 have b2:=bQ (P:=P) l.blk (l.off+o) tt fz xs' 0 u w hh oM (fun p hp=>a3 p oM) U;have O:=(gA hh).1;refine⟨goInt (min sn dn:Nat),I0 w l.blk (.cells (splice u.toList (l.off+o+0) xs').toArray tt fz),φ,?_,Ext.refl φ,VR.na (by rfl),I.put (l:=l) hg hl rfl (ci w l.blk _) (U1 I.below hb) ?_,Fr.of_put I hg hl rfl (abB _ _)⟩
 .rw[a5 w I.cls _ c ty];simp only[b2,kB]
 .refine⟨g0,fun v b4=>(gM _ _ _ v b4).elim (J v) (fun h=>D v (acM h)),fun i y hy=>?_,(by intro hf;cases hf),fun _=>⟨hb,by rw[D2];exact a2,_,tt,fz,I8 w _ _ O,by simp [D2];exact a6,fun i hi=>?_⟩⟩
  .rw[Q1 _ _ _ _ (by rw[X];exact b1)]at hy;have E:∀j,(I0 w l.blk (.cells (splice u.toList (l.off+o+0) xs').toArray tt fz)).cell? ⟨l.blk,j,none⟩=(splice u.toList (l.off+o) xs')[j]?:=by
    intro j;unfold World.cell?;simp [I8 w _ _ O]
   rw[E,Q1 _ _ _ _ (by have:u.toList.length=u.size:=sM;omega)];rw[X]at hy;split at hy
   next b0=>obtain⟨z,hz,W⟩:=hv.g hy;refine⟨z,?_,W⟩;rw[cA oM,show l.off+i-(l.off+o)=i-o from oM];exact hz
   .rename_i b0;obtain⟨z,hz,W⟩:=h1 i y hy;refine⟨z,?_,W⟩;rw[bt oM];unfold World.cell? at hz
    simpa [hh] using hz
  .have:=a3 i hi;unfold World.frozen? at this ⊢;simp only[hh]at this;simp only[I8 w _ _ O];exact this
def DV{H:d7}{I D:TypeId}(hW:WR base w0 φ H.bs w)(h:aU P H I D x=some (v,none))(hx:VR φ x x'):kH P base w0 φ H.bs w (convert I D x') v:=by
 unfold aU at h;split at h
 next d k k0 n z u=>cases h;cases hx;refine⟨_,.int _ _,fun O _=>?_⟩;simp only[convert,aac,aae z,aae u,kB];cases d<;>simp [Conv.intToInt]
 next d s z u=>cases h;cases hx;refine⟨_,.string _,fun O _=>?_⟩;simp only[convert,aac,aae z,aae u,kB];cases d<;>simp
 .rename_i e a n c z u;split at h
  rotate_left
  .cases h
  rename_i he;split at h
  rotate_left
  .cases h
  rename_i l hl;cases h;simp only[ada]at hl;obtain⟨cs,U,J⟩:=hl;obtain⟨a',c',l',rfl,h1,h2,h3⟩:=Z4 (P:=P) hW U hx;have:=yk J h2;subst this;refine⟨_,.string _,fun O hc=>?_⟩;have E:=h3 O hc n lR;rw[A2 oM]at E;simp only[convert,aac,aae z,aae u,kB,aae he,Conv.bytesToString];cases a' with
  |none=>
   simp only[Builtin.firstCells,aai,Result.ok.injEq,adV]at E;have X:l'=[]:=by have:=congrArg Array.toList E;simpa using this.symm
   subst X;simp at J;subst J;simp only[aai];rfl
  |some a'=>
   simp only[Builtin.firstCells,aaK]at E;simp only[aac,E,kB];rw[<-Array.forIn_toList];have:=zF (P:=P) l' ByteArray.empty l O J;simp only[List.toList_toArray]at this ⊢;refine(congrArg (fun r=>Result.andThen r _) this).trans ?_;simp only[kB,aai];have W:ByteArray.empty.data= #[]:=rfl;rw[W,Array.empty_append]
 .rename_i d e s z u;split at h
  .cases h
  .cases h
  .cases h
 .cases h
def xP(w:World)(g n:Nat)(cs:Array aet)(t:TypeId)(u:w.heap[g]?=some (.cells cs t (0,0))):(w.freeze ⟨g,n,none⟩ 1)=I0 w g (.cells cs t (n,n+1)):=by
 unfold World.freeze I0;simp only[Nat.one_ne_zero,acb]
 congr 1
 apply adz;intro i;rw[adg,aaw];by_cases z:g=i
 .subst z;have h:=(gA u).1;simp only[aab,u,aaU,h,beq_self_eq_true]
 .simp [z]
def rE{H:d7}(D:WR base w0 φ H.bs w)(e:TypeId)(s:aes)(a5:Nat):
  cK P base w0 φ H.bs a5 (H.push (.cells (s.data.toList.map U2) true 1)).bs w (Conv.stringToBytes e s) (.slice (some ⟨H.n,0,none⟩) s.size (s.size+1)):=by
 have O:(choose (Question.appendCap s.size 0 e)).run P w= .ok (s.size+w.tape w.drawn (.appendCap s.size 0 e) % (2 ^ 63-s.size)) w.drew:=by
  rw[aep,bt (by simp [Question.forced])];rfl
 generalize hk:w.tape w.drawn (.appendCap s.size 0 e) % (2 ^ 63-s.size)=k at O;have U:(s.data.toList.map U2).length=s.size:=sM;have hv:VRs φ (s.data.toList.map U2) (s.data.toList.map U2):=VRs.map _ _ _ (fun b _=> .int _ _);have W:∀x∈s.data.toList.map U2,x.oneCell'=true:=fun x hx=>by obtain⟨b,_,rfl⟩:=aau.1 hx;rfl
 have z:∀j,j<w.heap.size->(w.drew.alloc (.cells (s.data.toList.map U2++List.replicate k (Value.int .u8 0)).toArray e)).heap[j]?=w.heap[j]?:=fun j E=>abP _ _ _ E;have u:(w.drew.alloc (.cells (s.data.toList.map U2++List.replicate k (Value.int .u8 0)).toArray e)).heap[w.heap.size]?=some (.cells (s.data.toList.map U2++List.replicate k (Value.int .u8 0)).toArray e (0,0)):=adb w.drew _;have X:(Conv.stringToBytes e s).run P w= .ok (.slice (some ⟨w.heap.size,0,none⟩) s.size (s.size+k))
   (I0 (w.drew.alloc (.cells (s.data.toList.map U2++List.replicate k (Value.int .u8 0)).toArray e)) w.heap.size (.cells (s.data.toList.map U2++List.replicate k (Value.int .u8 0)).toArray e (s.size+k,s.size+k+1))):=by
  have I:Array.map (fun b=>Value.int IntKind.u8 ↑b.toNat) s.data++Array.replicate (s.size+k-s.size) (Value.int IntKind.u8 0)=(s.data.toList.map U2++List.replicate k (Value.int .u8 0)).toArray:=by
   apply aaC.1;simp only[abr,acx,Array.toList_replicate];rw[show s.size+k-s.size=k from oM];rfl
  have a3:(w.drew.alloc (.cells (s.data.toList.map U2++List.replicate k (Value.int .u8 0)).toArray e)).shape? w.heap.size=some (e,s.size+k):=by
   unfold World.shape?;rw[u];simp
  simp only[Conv.stringToBytes,aac,O,kB,newRow,newObj,Sem.run,aai,markStringish,run_shape,I];have e1:w.drew.heap.size=w.heap.size:=rfl;simp only[e1,World.alloc_eq,a3,run_freeze,xP _ _ _ _ _ u,kB]
 have J:But w (I0 (w.drew.alloc (.cells (s.data.toList.map U2++List.replicate k (Value.int .u8 0)).toArray e)) w.heap.size (.cells (s.data.toList.map U2++List.replicate k (Value.int .u8 0)).toArray e (s.size+k,s.size+k+1))) none:=
  ⟨by simp [I0],fun j E _=>by rw[bP _ _ _ _ oM];exact z j E⟩
 refine⟨_,_,φ++[⟨w.heap.size,0,s.size+k,1⟩],X,Ext.snoc _ _,?_,D.push J ?_ (fun _=>lR) ?_,Fr.of_old D fun j o E=>?_⟩
 .refine VR.slice (l:=⟨w.heap.size,0,s.size+k,1⟩) (o:=0) (T5 D) oM sM
 .exact U1 ((D.below.drew).alloc D.size _) (fC D.size)
 .have h:=I8 (w.drew.alloc (.cells (s.data.toList.map U2++List.replicate k (Value.int .u8 0)).toArray e)) w.heap.size (.cells (s.data.toList.map U2++List.replicate k (Value.int .u8 0)).toArray e (s.size+k,s.size+k+1)) sM;refine⟨rfl,W,fun i x hi=>?_,(by intro hf;cases hf),fun _=>⟨fC D.size,by rw[U];show s.size<=s.size+k;omega,_,e,_,h,by simp,fun i hi=>?_⟩⟩
  .obtain⟨y,hy,a4⟩:=hv.g hi;refine⟨y,?_,a4.mono (Ext.snoc _ _)⟩;unfold World.cell?;simp only[h,acg,bF,aaH];have a2:i<(s.data.toList.map U2).length:=(gS hy).1;rw[ab5,xd a2];exact hy
  .unfold World.frozen?;simp only[h];have:i<0+(s.size+k):=hi;simp only[aed,abY]
   left;omega
 .have a1:=(gA E).1;rw[bP _ _ _ _ oM,z j a1];exact E
def sJ(s:aes):∀(b i:Nat)(u:Array aet),(∀x∈u,∃n,x= .int .i32 n)->∀x∈Conv.runesFrom s b i u,∃n,x= .int .i32 n:=by
 intro b;induction b with
 |zero=>intro i u h;exact h
 |succ b D=>
  intro i u h;unfold Conv.runesFrom;split
  .refine D _ _ fun x z=>?_;rcases Array.mem_push.1 z with z|rfl
   .exact h x z
   .exact⟨_,rfl⟩
  .exact h
def rF{H:d7}(I:WR base w0 φ H.bs w)(e:TypeId)(s:aes)(E:Nat):
  cK P base w0 φ H.bs E (H.push (.cells (Conv.runesFrom s s.size 0 #[]).toList true 1)).bs w (Conv.stringToRunes e s) (.slice (some ⟨H.n,0,none⟩) (Conv.runesFrom s s.size 0 #[]).size ((Conv.runesFrom s s.size 0 #[]).size+1)):=by
 have h:=sJ s s.size 0 #[] (fun x D=>by simp at D);unfold Conv.stringToRunes;generalize Conv.runesFrom s s.size 0 #[]=R at h ⊢;have z:(choose (Question.appendCap R.size 0 e)).run P w= .ok (R.size+w.tape w.drawn (.appendCap R.size 0 e) % (2 ^ 63-R.size)) w.drew:=by
  rw[aep,bt (by simp [Question.forced])];rfl
 generalize hk:w.tape w.drawn (.appendCap R.size 0 e) % (2 ^ 63-R.size)=k at z;have J:VRs φ R.toList R.toList:=⟨rfl,fun i x y p q=>by
  rw[p]at q;cases q;obtain⟨n,rfl⟩:=h x (by simpa using mG p);exact .int _ _⟩
 refine dS I (w1:=w.drew) (xs:=R.toList) (rest:=List.replicate k (Value.int .i32 0)) (e:=e) rfl rfl rfl rfl J (fun x D=>by obtain⟨n,rfl⟩:=h x (by simpa using D);rfl) (v':= .slice (some ⟨w.heap.size,0,none⟩) R.size (R.size+k)) ?_ ?_
 .have u:R++Array.replicate (R.size+k-R.size) (Value.int IntKind.i32 0)=(R.toList++List.replicate k (Value.int .i32 0)).toArray:=by
   apply aaC.1;simp
  simp only[aac,z,kB,newRow,newObj,Sem.run,aai,u];rfl
 .exact VR.slice (l:=⟨w.heap.size,0,_,1⟩) (o:=0) (T5 I) oM sM
def DX{H H':d7}{z u:TypeId}(U:WR base w0 φ H.bs w)(h:aU P H z u x=some (v,some H'))(hx:VR φ x x'):cK P base w0 φ H.bs H'.low H'.bs w (convert z u x') v:=by
 unfold aU at h;split at h
 .cases h
 .cases h
 .split at h
  .split at h<;>cases h
  .cases h
 .rename_i d e s X W;cases hx;have J:P.underlying e=some (.int .u8)->(convert z u (.string s)).run P w=(Conv.stringToBytes e s).run P w:=by
   intro I;simp only[convert,aac,aae X,aae W,kB];cases d<;>simp only[aac,aae I,kB]
  have D:P.underlying e=some (.int .i32)->(convert z u (.string s)).run P w=(Conv.stringToRunes e s).run P w:=by
   intro I;simp only[convert,aac,aae X,aae W,kB];cases d<;>simp only[aac,aae I,kB]
  have E:∀{q:Sem aet}{O:List Blk}{v},(convert z u (.string s)).run P w=q.run P w->cK P base w0 φ H.bs H'.low O w q v->cK P base w0 φ H.bs H'.low O w (convert z u (.string s)) v:=by
   intro q O v hq ⟨v',w',φ',h1,h2⟩;exact⟨v',w',φ',hq.trans h1,h2⟩
  split at h
  next I=>simp only[aaa,aah]at h;obtain⟨rfl,rfl⟩:=h;exact E (J I) (rE U e s _)
  next I=>simp only[aaa,aah]at h;obtain⟨rfl,rfl⟩:=h;exact E (D I) (rF U e s _)
  .cases h
 .cases h
end
structure ER(φ:List Loc)(nt:Nat)(e:Env)(a:Act):Prop where
 size:a.tmps.size=nt
 val:∀t,VR φ (e.g t) (a.tmps.getD t undef)
section
variable{P:Program}{base:Bs}{w0:World}{φ:List Loc}{S:List Blk}{w:World}{nt:Nat}{e:Env}{a:Act}
def ER.mono(z:Ext φ u)(h:ER φ nt e a):ER u nt e a:=⟨h.size,fun t=>(h.val t).mono z⟩
def ER.op(h:ER φ nt e a)(u:D0 x=true):VR φ (opv e x) (a.eval x):=Fj ⟨h.size,h.val⟩ rfl u
def ER.put(h:ER φ nt e a)(z:ii nt d=true)(D:VR φ v v'):ER φ nt (L7 e d v) (a.put d v'):=by
 cases d with
 |none=>exact h
 |some d=>
  simp only[ii,xo]at z;refine⟨by simp [Act.put,h.size],fun t=>?_⟩;simp only[Act.put,L7,Env.g];by_cases u:d=t
  .subst u;rw[cA rfl];have:d<a.tmps.size:=by rw[h.size];exact z
   simp only[sW,aaw,aab,this,aa6];exact D
  .rw[bt u];have:=h.val t;simp only[sW,aaw,bt u]at this ⊢;exact this
def ER.wanted(h:ER φ nt e a)(ops:Array Oper)(o:Oper)(W:∀(j:Nat)(E:Oper)(d:Nat),ops[j]?=some E->E.dst=some d->d<nt) (D:ak ops e o=false):F0 ops e o=Region.wanted o (yielded ops a.tmps):=by
 unfold ak at D;unfold F0 Region.wanted;cases X:o.guard with
 |none=>rfl
 |some g=>
  obtain⟨j,b⟩:=g;rw[X]at D;simp only[yielded];cases U:ops[j]? with
  |none=>rfl
  |some E=>
   simp only[U,aas]at D;cases u:E.dst with
   |none=>simp [u]
   |some d=>
    simp only[u]at D;simp only[u,aas];have J:d<a.tmps.size:=by rw[h.size];exact W j E d U u
    have O:=h.val d;have I:a.tmps[d]?=some (a.tmps.getD d undef):=by simp [J]
    rw[I];generalize a.tmps.getD d undef=z at O;generalize e.g d=y at O D;cases O<;>first|rfl|cases D
def ER.args(h:ER φ nt e a){xs:Array Operand}(z:xs.toList.all D0=true):VRs φ (xs.toList.map (opv e)) (xs.toList.map a.eval):=
 VRs.map _ _ _ fun x u=>h.op (aaB.1 z x u)
def ER.parts(h:ER φ nt e a){xs:Array (Nat×Operand)}(E:(xs.toList.map (·.2)).all D0=true):
  kJ φ (xs.toList.map fun(i,x)=>(i,opv e x)) (xs.toList.map fun(i,x)=>(i,a.eval x)):=by
 refine⟨by simp,fun i x y p q=>?_⟩;simp only[aaS,ZZ]at p q;obtain⟨⟨j,z⟩,D,rfl⟩:=p;obtain⟨⟨I,J⟩,u,rfl⟩:=q;rw[D]at u;cases u;exact⟨rfl,h.op (aaB.1 E z (aau.2 ⟨_,mG D,rfl⟩))⟩
def ER.opt(h:ER φ nt e a){x:Option Operand}(u:x.toList.all D0=true):(∀v v',x.map (opv e)=some v->x.map a.eval=some v'->VR φ v v')/\(x.map (opv e)).isSome=(x.map a.eval).isSome:=by
 cases x with
 |none=>exact⟨fun v v' p=>(by cases p),rfl⟩
 |some x=>exact⟨fun v v' p q=>(by cases p;cases q;exact h.op (by simpa using u)),rfl⟩
def E8(h:keep x=some (v,r)):x=some v/\r=none:=by
 unfold keep at h;simp only[ZZ,aah]at h;obtain⟨y,rfl,rfl,rfl⟩:=h;exact⟨rfl,rfl⟩
def C8(h:turn x=some (v,r)):∃H',x=some (v,H')/\r=some H':=by
 unfold turn at h;simp only[ZZ,aah]at h;obtain⟨⟨y,H'⟩,rfl,rfl,rfl⟩:=h;exact⟨H',rfl,rfl⟩
def R9(P:Program)(base:Bs)(w0:World)(φ:List Loc)(S:List Blk)(w:World)(s:Sem Next)(v:aet):Prop:=
 ∃v',VR φ v v'/\∀w',Cls base w0 φ S w w'->s.run P w'= .ok (.value v') w'
def R9.of{s:Sem aet}(h:kH P base w0 φ S w s v):R9 P base w0 φ S w (do pure (.value (<-s))) v:=by
 obtain⟨v',u,z⟩:=h;exact⟨v',u,fun E D=>by simp only[aac,z E D,kB,aai]⟩
def R9.all{s:Sem aet}(h:∃v',VR φ v v'/\∀u,s.run P u= .ok v' u):R9 P base w0 φ S w (do pure (.value (<-s))) v:=
 let⟨v',h1,h2⟩:=h;R9.of ⟨v',h1,fun u _=>h2 u⟩
def uS{b:Builtin}{ts:Array TypeId}{ty:TypeId}{H:d7}{args u:LV}(hW:WR base w0 φ H.bs w)(h:D9 P b ts.toList args H=some (v,none))(J:VRs φ args u):
  R9 P base w0 φ H.bs w (builtin b ts ty cs u.toArray) v:=by
 unfold D9 at h;split at h
 next x=>simp only[ZZ,aah]at h;obtain⟨v,h,rfl,_⟩:=h;obtain⟨y,ys,rfl,D,E⟩:=J.of_cons;rw[E.of_nil];have:=EM hW h D ty;simp only[aa0]at this;exact R9.of this
 next s x=>obtain⟨y,ys,rfl,D,E⟩:=J.of_cons;obtain⟨z,zs,rfl,W,X⟩:=E.of_cons;rw[X.of_nil];have:=wM hW h D W ty;simp only[aa0]at this;exact R9.of this
 next d s=>obtain⟨y,ys,rfl,D,E⟩:=J.of_cons;obtain⟨z,zs,rfl,W,X⟩:=E.of_cons;rw[X.of_nil];have:=DY hW h D W ty;simp only[aa0]at this;exact R9.of this
 .simp only[ZZ,aah]at h;obtain⟨v,h,rfl,_⟩:=h;obtain⟨y,rest,rfl,D,E⟩:=lH h _ J;refine R9.all ⟨v,D,fun U=>?_⟩;have:=E U
  simpa [Builtin.max_] using this
 .simp only[ZZ,aah]at h;obtain⟨v,h,rfl,_⟩:=h;obtain⟨y,rest,rfl,D,E⟩:=lH h _ J;refine R9.all ⟨v,D,fun U=>?_⟩;have:=E U
  simpa [Builtin.min_] using this
 .split at h
  .rename_i e O;obtain⟨t,ht,O⟩:∃t,ts[0]?=some t/\P.underlying t=some (.slice e):=by
    cases I:ts.toList with
    |nil=>rw[I]at O;simp at O
    |cons t r=>
     rw[I]at O;exact⟨t,by rw[<-abj,I];rfl,by simpa using O⟩
   cases h;obtain⟨y,ys,rfl,D,E⟩:=J.of_cons;rw[E.of_nil];cases D;exact R9.all ⟨_,.int _ _,fun U=>by simp [Builtin.cap_,ht,aae O,goInt]⟩
  .cases h
 .cases h
def jz{o:Oper}{H:d7}(X:WR base w0 φ H.bs w)(z:ER φ nt e a)(u:o.op.operands.toList.all D0=true)(hc:isCall o.op=false)(h:aop P C o.op e H=some (v,none)):
  R9 P base w0 φ H.bs w (execOp a.eval o) v:=by
 unfold aop at h;unfold execOp;split at h<;>rename_i W<;>simp only[W]
 all_goals simp only[W,Op.operands,aaE,abQ,aa9,gk]at u
 case h_1 x=>
  obtain⟨h,_⟩:=E8 h;cases h;exact⟨_,z.op u,fun U _=>rfl⟩
 case h_2 x=>
  obtain⟨h,_⟩:=E8 h;cases h;exact⟨_,z.op u,fun U _=>rfl⟩
 case h_3 c x y=>
  have hc:=z.op u.1;split at h
  next t J=>rw[J]at hc;obtain⟨h,_⟩:=E8 h;cases h;generalize hcv:a.eval c=cv at hc;cases hc;refine⟨if t then a.eval x else a.eval y,by cases t;exact z.op u.2.2;exact z.op u.2.1,fun U _=>?_⟩;simp only[asBool,aac,aai,kB]
  .cases h
 case h_4=>obtain⟨_,_,h⟩:=C8 h;cases h
 case h_5=>
  split at h
  .obtain⟨_,_,h⟩:=C8 h;cases h
  .cases h
 case h_6 t I=>
  obtain⟨h,_⟩:=E8 h;have hp:=z.parts (xs:=I) (by simpa [List.all_map] using u);have:=xe h hp;have e1:(I.map fun(i,x)=>(i,a.eval x))=(I.toList.map fun(i,x)=>(i,a.eval x)).toArray:=by apply aaC.1;simp
  rw[e1];exact R9.all this
 case h_7=>obtain⟨_,_,h⟩:=C8 h;cases h
 case h_8 t x=>
  obtain⟨h,_⟩:=E8 h;exact R9.of (yf X h (z.op u))
 case h_9=>obtain⟨_,_,h⟩:=C8 h;cases h
 case h_10 x=>
  have O:=z.op u;split at h
  .rename_i ad J;rw[J]at O;obtain⟨h,_⟩:=E8 h;cases h;generalize a.eval x=xv at O;cases O with
   |ptr hl=>exact⟨_,.ptr hl,fun U _=>rfl⟩
  .rename_i g f c J;rw[J]at O;obtain⟨h,_⟩:=E8 h;cases h;generalize a.eval x=xv at O;have a5:=O;cases O with
   |func=>exact⟨_,a5,fun U _=>rfl⟩
  .cases h
 case h_11 op t x y yt=>
  obtain⟨h,_⟩:=E8 h;exact R9.all (DD h (z.op u.1) (z.op u.2) x y)
 case h_12 op t x=>
  obtain⟨h,_⟩:=E8 h;exact R9.all (JY h (z.op u))
 case h_13 s d x=>exact R9.of (DV X h (z.op u))
 case h_14 t x=>
  split at h
  next a4=>obtain⟨h,_⟩:=E8 h;cases h;exact R9.all ⟨_,.iface t (z.op u),fun U=>run_makeInterface U t _ a4⟩
  .cases h
 case h_15 fn first E=>
  split at h
  .rename_i g;obtain⟨h,_⟩:=E8 h;cases h;have D:first.toList.all D0=true/\E.toList.all D0=true:=by
    simpa [abN] using u
   have h1:=z.args D.1;have h2:=z.args D.2;refine R9.all ⟨.func (.func g) (first.map a.eval) (E.map a.eval),.func g ?_ ?_ ?_ ?_,fun U=>rfl⟩
   .simp
   .simp only[acx];exact h1.2
   .simp
   .simp only[acx];exact h2.2
  .cases h
 case h_16=>obtain⟨_,_,h⟩:=C8 h;cases h
 case h_17=>obtain⟨_,_,h⟩:=C8 h;cases h
 case h_18 t x lo hi mx=>
  obtain⟨h,_⟩:=E8 h;have D:D0 x=true/\lo.toList.all D0=true/\hi.toList.all D0=true/\mx.toList.all D0=true:=by
   simp only[abr,abN,gk,adh,aaE,abQ,aa9]at u
   simpa [and_assoc] using u
  exact R9.all (CC X h (z.op D.1) (z.opt D.2.1) (z.opt D.2.2.1) (z.opt D.2.2.2))
 case h_19 s x f=>
  obtain⟨h,_⟩:=E8 h;exact R9.all (oE h (z.op u))
 case h_20 s x f=>
  obtain⟨h,_⟩:=E8 h;exact R9.all (xG h (z.op u))
 case h_21 t x ix=>
  obtain⟨h,_⟩:=E8 h;exact R9.all (oH h (z.op u.1) (z.op u.2))
 case h_22 t x ix=>
  obtain⟨h,_⟩:=E8 h;exact R9.all (xU h (z.op u.1) (z.op u.2))
 case h_23 t m k ok=>
  obtain⟨h,_⟩:=E8 h;exact R9.of (vH X h (z.op u.1) (z.op u.2))
 case h_24=>obtain⟨_,_,h⟩:=C8 h;cases h
 case h_25=>
  split at h
  .obtain⟨_,_,h⟩:=C8 h;cases h
  .cases h
 case h_26 it=>exact R9.of (Fd X h (z.op u) o.type)
 case h_27 x i=>
  have O:=z.op u;split at h
  .rename_i vs J;rw[J]at O;split at h
   rotate_left
   .cases h
   rename_i a1;obtain⟨h,_⟩:=E8 h;generalize a.eval x=xv at O;cases O with
   |lost v=>exact absurd a1 (by decide)
   |tuple e1 e2=>
    rename_i a6;obtain⟨y,hy,hv⟩:=VRs.g ⟨e1,e2⟩ h;refine R9.all ⟨y,hv,fun U=>?_⟩;have:a6[i]?=some y:=by rw[<-abj];exact hy
    simp only[Instr.extract,this,aai]
  .cases h
 case h_28 c=>
  unfold iE at h;split at h
  .rename_i b J;have D:c.args.toList.all D0=true:=by
    simp only[Call.operands,J,abr,abN,gk]at u;exact u.2
   have:=uS (ty:=o.type) (cs:=c.args.map fun| .const _=>true|_=>false) X h (z.args D);have e1:(c.args.toList.map a.eval).toArray=c.args.map a.eval:=by apply aaC.1;simp
   rw[e1]at this;obtain⟨v',h1,h2⟩:=this;refine⟨v',h1,fun U a3=>?_⟩;have a2:=h2 U a3;simp only[resolve,J,aac,aai,kB,invoke];exact a2
  next f J=>rw[W]at hc;obtain⟨a8,as,a7⟩:=c;simp only at J;subst J;cases hc
  .cases h
 case h_29=>cases h
def V3(P:Program)(base:Bs)(w0:World)(φ:List Loc)(S:List Blk)(low:Nat)(S':List Blk)(w:World)(s:Sem Next)(v:aet):Prop:=
 ∃v' w' φ',(s.run P w= .ok (.value v') w'\/(s.run P w= .ok .skip w'/\v'=undef))/\Ext φ φ'/\VR φ' v v'/\WR base w0 φ' S' w'/\Fr φ S low w w'
def V3.of{s:Sem aet}(h:cK P base w0 φ S u z w s v):V3 P base w0 φ S u z w (do pure (.value (<-s))) v:=by
 obtain⟨v',I,J,D,E⟩:=h;exact⟨v',I,J,.inl (by simp only[aac,D,kB,aai]),E⟩
def V3.skip{s:Sem Unit}(h:∃z,s.run P w= .ok () z/\WR base w0 φ D z/\Fr φ S u w z):V3 P base w0 φ S u D w (do s;pure .skip) undef:=by
 obtain⟨z,E,I,J⟩:=h;exact⟨undef,z,φ,.inr ⟨by simp only[aac,E,kB,aai],rfl⟩,Ext.refl φ,VR.undef' φ,I,J⟩
def uT{b:Builtin}{ts:Array TypeId}{ty:TypeId}{H H':d7}{args u:LV}(O:WR base w0 φ H.bs w)(h:D9 P b ts.toList args H=some (v,some H'))(U:VRs φ args u):
  V3 P base w0 φ H.bs H'.low H'.bs w (builtin b ts ty cs u.toArray) v:=by
 unfold D9 at h;split at h
 .simp only[ZZ,aah]at h;obtain⟨v,h,_,D⟩:=h;cases D
 next s x=>obtain⟨y,W,rfl,E,D⟩:=U.of_cons;obtain⟨z,X,rfl,I,J⟩:=D.of_cons;rw[J.of_nil];have:=wO O h E I ty;simp only[aa0]at this;exact V3.of this
 next d s=>obtain⟨y,W,rfl,E,D⟩:=U.of_cons;obtain⟨z,X,rfl,I,J⟩:=D.of_cons;rw[J.of_nil];have:=DZ O h E I ty;simp only[aa0]at this;exact V3.of this
 .simp only[ZZ,aah]at h;obtain⟨v,h,_,D⟩:=h;cases D
 .simp only[ZZ,aah]at h;obtain⟨v,h,_,D⟩:=h;cases D
 .split at h<;>cases h
 .cases h
def N6(h:keep x=some (v,some H')):False:=by
 have:=(E8 h).2;cases this
def vQ{o:Oper}{H H':d7}(J:WR base w0 φ H.bs w)(I:ER φ nt e a)(u:o.op.operands.toList.all D0=true)(hc:isCall o.op=false)(h:aop P C o.op e H=some (v,some H')):
  V3 P base w0 φ H.bs H'.low H'.bs w (execOp a.eval o) v:=by
 unfold aop at h;unfold execOp;split at h<;>rename_i O<;>simp only[O]
 all_goals simp only[O,Op.operands,aaE,abQ,aa9,gk]at u
 all_goals try exact(N6 h).elim
 case h_3=>
  split at h
  .exact(N6 h).elim
  .cases h
 case h_4 t=>
  obtain⟨_,h,D⟩:=C8 h;cases D;simp only[ZZ,aah]at h;obtain⟨z,hz,rfl,rfl⟩:=h;exact V3.of (wH J hz _)
 case h_5 t x=>
  split at h
  next X=>obtain⟨_,h,D⟩:=C8 h;cases D;simp only[aaa,aah]at h;obtain⟨rfl,rfl⟩:=h;exact V3.of (DF J (I.op u) X _)
  .cases h
 case h_7 t a3 E=>
  obtain⟨_,h,D⟩:=C8 h;cases D;have hp:=I.parts (xs:=E) (by simpa [List.all_map] using u);have:=mu J h hp H'.low;have D:(E.map fun(i,x)=>(i,a.eval x))=(E.toList.map fun(i,x)=>(i,a.eval x)).toArray:=by apply aaC.1;simp
  rw[D];exact V3.of this
 case h_9 t x y=>
  obtain⟨_,h,D⟩:=C8 h;cases D;simp only[ZZ,aah]at h;obtain⟨H2,hq,rfl,rfl⟩:=h;exact V3.skip (FK J hq (I.op u.1) (I.op u.2))
 case h_10=>
  split at h
  .exact(N6 h).elim
  .exact(N6 h).elim
  .cases h
 case h_13 s d x=>exact V3.of (DX J h (I.op u))
 case h_14=>
  split at h
  .exact(N6 h).elim
  .cases h
 case h_15=>
  split at h
  .exact(N6 h).elim
  .cases h
 case h_16 t=>
  obtain⟨_,h,D⟩:=C8 h;cases D;simp only[aaa,aah]at h;obtain⟨rfl,rfl⟩:=h;exact V3.of (sB J t _)
 case h_17 t l c=>
  obtain⟨_,h,D⟩:=C8 h;cases D;exact V3.of (oI J h (I.op u.1) (I.op u.2) _)
 case h_24 t m k x=>
  obtain⟨_,h,D⟩:=C8 h;cases D;simp only[ZZ,aah]at h;obtain⟨H2,hq,rfl,rfl⟩:=h;exact V3.skip (oJ J hq (I.op u.1) (I.op u.2.1) (I.op u.2.2))
 case h_25 t x=>
  have hx:=I.op u;split at h
  next s hu hs=>rw[hs]at hx;obtain⟨_,h,D⟩:=C8 h;cases D;simp only[aaa,aah]at h;obtain⟨rfl,rfl⟩:=h;generalize a.eval x=xv at hx;cases hx;exact V3.of (yD J hu _)
  .cases h
 case h_26 it=>exact V3.of (Fe J h (I.op u) o.type)
 case h_27=>
  split at h
  .split at h
   .exact(N6 h).elim
   .cases h
  .cases h
 case h_28 c=>
  unfold iE at h;split at h
  .rename_i b U;have W:c.args.toList.all D0=true:=by
    simp only[Call.operands,U,abr,abN,gk]at u;exact u.2
   have:=uT (ty:=o.type) (cs:=c.args.map fun| .const _=>true|_=>false) J h (I.args W);have D:(c.args.toList.map a.eval).toArray=c.args.map a.eval:=by apply aaC.1;simp
   rw[D]at this;obtain⟨v',w',φ',h1,h2⟩:=this;refine⟨v',w',φ',?_,h2⟩;simp only[resolve,U,aac,aai,kB,invoke];exact h1
  next f U=>rw[O]at hc;obtain⟨a2,as,a1⟩:=c;simp only at U;subst U;cases hc
  .cases h
 case h_29=>cases h
structure Le(H H':d7):Prop where
 low:H'.low<=H.low
 len:H.bs.length<=H'.bs.length
 same:∀b,b<H'.low->b<H.bs.length->H'.bs[b]?=H.bs[b]?
def Le.refl(H:d7):Le H H:=⟨lR,lR,fun _ _ _=>rfl⟩
def Le.trans{A B C:d7}(h:Le A B)(k:Le B C):Le A C:=
 ⟨abw k.low h.low,abw h.len k.len,fun b u z=>by rw[k.same b u (aaF z h.len),h.same b (aaF u k.low) z]⟩
def Le.push(H:d7)(x:Blk):Le H (H.push x):=
 ⟨lR,by simp [d7.push],fun b _ h=>by simp [d7.push,xd h]⟩
def Le.put(H:d7)(b:Nat)(x:Blk):Le H (H.put b x):=
 ⟨ack _ _,by simp [d7.put],fun c h _=>by
  have:c<min H.low b:=h;simp only[d7.put,abb];rw[bt oM]⟩
def Fr.trans{φ φ':List Loc}{w X D:World}(hx:Ext φ φ')(hl:Le H H')(z:Le H' u)(U:φ.length=H.bs.length)(h:Fr φ H.bs H'.low w X)(k:Fr φ' H'.bs u.low X D):Fr φ H.bs u.low w D:=by
 intro b B l I E O W;have J:b<H.bs.length:=(gS E).1;have h2:H'.bs[b]?=some B:=by rw[hl.same b (aaF I z.low) J];exact E
 rw[k b B l I h2 O (hx _ _ W),h b B l (aaF I z.low) E O W]
def EK{s x v:aet}(h:A8 P H ts s x=some (v,some H')):Le H H':=by
 unfold A8 at h
 repeat' split at h
 all_goals first|(cases h;done)|(simp at h;done)|skip
 all_goals (simp only[aaa,aah]at h;obtain⟨_,rfl⟩:=h)
 .exact Le.push _ _
 .exact Le.push _ _
 .exact(Le.put _ _ _).trans (Le.push _ _)
def LG{s x v:aet}(h:nr P H ts s x=some (v,some H')):Le H H':=by
 unfold nr at h
 repeat' split at h
 all_goals first|(cases h;done)|(simp at h;done)|skip
 all_goals (simp only[aaa,aah]at h;obtain⟨_,rfl⟩:=h)
 exact Le.put _ _ _
def AL{b:Builtin}{args:LV}(h:D9 P b ts args H=some (v,some H')):Le H H':=by
 unfold D9 at h;split at h
 .simp only[ZZ,aah]at h;obtain⟨v,h,_,u⟩:=h;cases u
 .exact EK h
 .exact LG h
 .simp only[ZZ,aah]at h;obtain⟨v,h,_,u⟩:=h;cases u
 .simp only[ZZ,aah]at h;obtain⟨v,h,_,u⟩:=h;cases u
 .split at h<;>cases h
 .cases h
def nN(U:isCall o=false)(h:aop P C o e H=some (v,some H')):Le H H':=by
 unfold aop at h;split at h
 all_goals try exact(N6 h).elim
 case h_3=>
  split at h
  .exact(N6 h).elim
  .cases h
 case h_4 t=>
  obtain⟨_,h,u⟩:=C8 h;cases u;simp only[ZZ,aah]at h;obtain⟨z,hz,rfl,rfl⟩:=h;exact Le.push _ _
 case h_5 t x=>
  split at h
  .obtain⟨_,h,u⟩:=C8 h;cases u;simp only[aaa,aah]at h;obtain⟨rfl,rfl⟩:=h;exact Le.push _ _
  .cases h
 case h_7 t W E=>
  obtain⟨_,h,u⟩:=C8 h;cases u;unfold T7 at h
  repeat' split at h
  all_goals first|(cases h;done)|skip
  cases h;exact Le.push _ _
 case h_9 t x y=>
  obtain⟨_,h,u⟩:=C8 h;cases u;simp only[ZZ,aah]at h;obtain⟨H2,D,rfl,rfl⟩:=h;unfold sto at D
  repeat' split at D
  all_goals first|(cases D;done)|skip
  cases D;exact Le.put _ _ _
 case h_10=>
  split at h
  .exact(N6 h).elim
  .exact(N6 h).elim
  .cases h
 case h_13 s d x=>
  unfold aU at h
  repeat' split at h
  all_goals first|(cases h;done)|(simp at h;done)|skip
  all_goals (simp only[aaa,aah]at h;obtain⟨_,rfl⟩:=h)
  .exact Le.push _ _
  .exact Le.push _ _
 case h_14=>
  split at h
  .exact(N6 h).elim
  .cases h
 case h_15=>
  split at h
  .exact(N6 h).elim
  .cases h
 case h_16 t=>
  obtain⟨_,h,u⟩:=C8 h;cases u;simp only[aaa,aah]at h;obtain⟨rfl,rfl⟩:=h;exact Le.push _ _
 case h_17 t l c=>
  obtain⟨_,h,u⟩:=C8 h;cases u;unfold P9 at h
  repeat' split at h
  all_goals first|(cases h;done)|skip
  cases h;exact Le.push _ _
 case h_24 t m k x=>
  obtain⟨_,h,u⟩:=C8 h;cases u;simp only[ZZ,aah]at h;obtain⟨H2,D,rfl,rfl⟩:=h;unfold aL at D
  repeat' split at D
  all_goals first|(cases D;done)|skip
  all_goals cases D
  .exact Le.put _ _ _
  .exact Le.put _ _ _
 case h_25 t x=>
  split at h
  .obtain⟨_,h,u⟩:=C8 h;cases u;simp only[aaa,aah]at h;obtain⟨rfl,rfl⟩:=h;exact Le.push _ _
  .cases h
 case h_26 it=>
  unfold lN at h
  repeat' split at h
  all_goals first|(cases h;done)|(simp at h;done)|skip
  simp only[aaa,aah]at h;obtain⟨_,rfl⟩:=h;exact Le.put _ _ _
 case h_27=>
  split at h
  .split at h
   .exact(N6 h).elim
   .cases h
  .cases h
 case h_28 c=>
  unfold iE at h;split at h
  .exact AL h
  next f I=>obtain⟨O,X,J⟩:=c;simp only at I;subst I;cases U
  .cases h
 case h_29=>cases h
def eO(P:Program)(g:FuncId):Prop:=∃fn,P.funcs[g]?=some fn/\(fn.name== "runtime.NumGoroutine")=false/\fn.body.isNone=false
def lV(P:Program)(base:Bs)(w0:World)(C:B9):Prop:=
 ∀g args H v r,C g args H=some (v,r)->eO P g/\(∀H',r=some H'->Le H H')/\(r=none->N8 v=true)/\
  ∀(φ:List Loc)(w:World)(args':LV),VRs φ args args'->WR base w0 φ H.bs w->
   Calls P g args'.toArray w fun en w'=>match r with
    |none=>en= .returned v/\Cls base w0 φ H.bs w w'
    |some H'=>∃v' φ',en= .returned v'/\Ext φ φ'/\VR φ' v v'/\WR base w0 φ' H'.bs w'/\Fr φ H.bs H'.low w w'
def lZ{g:FuncId}(h:eO P g)(args:Array aet)(w:World):(callFunc g args).run P w= .ok (.enter g args) w:=by
 obtain⟨E,u,z,D⟩:=h;simp only[callFunc,aac,run_program,kB,u,z,D,bF,aai]
def dK{c:Call}{g:FuncId}{first h:Array aet}(u:c.callee= .value f){ty:TypeId}(E:a.eval f= .func (.func g) first h)(z:eO P g){o:Oper}(D:o.op= .call c)(w:World):
  (execOp a.eval o).run P w= .ok (.enter g (first++c.args.map a.eval++h)) w:=by
 unfold execOp;simp only[D,resolve,u,E,Deferred.ofValue,aac,aai,kB,invoke,lZ z]
end
section
variable{ops:Array Oper}{A:List Nat}
structure rV(ops:Array Oper)(A:List Nat):Prop where
 sel:Region.noSelect ops=true
 back:∀(i:Nat) oi,ops[i]?=some oi->∀d∈X6 oi,d<i
 anc:∀(i k:Nat) oi,ops[i]?=some oi->k<ops.size->isAnc A i k=true->∃d∈X6 oi,d=k\/isAnc A d k=true
 look:∀(i k:Nat) oi ok d,ops[i]?=some oi->ops[k]?=some ok->ok.dst=some d->d∈oi.looksAt ops->(k<i/\isAnc A i k=true)\/(i<k/\isAnc A k i=true)
 dst:∀(i k:Nat) oi ok d,ops[i]?=some oi->ops[k]?=some ok->oi.dst=some d->ok.dst=some d->i=k
 flo:∀(i k:Nat) oi ok d,ops[i]?=some oi->ops[k]?=some ok->bJ ok.op=true->ok.dst=some d->(C0 oi.op=true/\bJ oi.op=false)\/d∉oi.looksAt ops
 ord:∀(i k:Nat) oi ok,ops[i]?=some oi->ops[k]?=some ok->k<i->C0 oi.op=true->bJ oi.op=false->C0 ok.op=true->isAnc A i k=true
 free:∀(i:Nat) oi,ops[i]?=some oi->bJ oi.op=true->oi.guard=none/\∃d,oi.dst=some d
def T8(h:ops[i]?=some o):i<ops.size:=(gA h).1
def VT(h:nO ops A=true):rV ops A:=by
 simp only[nO,gk,aaB,aaz]at h;have I:∀(i:Nat) u,ops[i]?=some u->mK ops A i u=true:=fun i u z=>by
  have:=h.2 i (T8 z);simpa only[z] using this
 have X:∀(i k:Nat) u ok,ops[i]?=some u->ops[k]?=some ok->oY ops A i k u ok=true:=fun i k u ok z D=>by
  have:=I i u z;simp only[mK,gk,aaB,aaz]at this;have:=this.1.2 k (T8 D);simpa only[D] using this
 have J:∀(i k:Nat) u ok d,ops[i]?=some u->ops[k]?=some ok->ok.dst=some d->
   ((!(u.looksAt ops).contains d||(if k<i then isAnc A i k else if i<k then isAnc A k i else false))=true/\(k==i||u.dst !=some d)=true)/\(!bJ ok.op||((C0 u.op&& !bJ u.op)|| !(u.looksAt ops).contains d))=true:=fun i k u ok d z D E=>by
  have:=X i k u ok z D;simp only[oY,E,gk]at this;exact this.1
 refine⟨h.1,fun i u z d E=>?_,fun i k u z D ha=>?_,fun i k u ok d z D E hl=>?_,fun i k u ok d z D O S=>?_,fun i k u ok d z D U E=>?_,fun i k u ok z D W t1 f1 t2=>?_,fun i u z U=>?_⟩
 .have:=I i u z;simp only[mK,gk,aaB,xo]at this;exact this.1.1.1 d E
 .have:=I i u z;simp only[mK,gk,aaB,aaz]at this;have:=this.1.1.2 k D;rw[ha]at this
  simpa using this
 .have:=(J i k u ok d z D E).1.1;have hc:(u.looksAt ops).contains d=true:=by simpa using hl
  rw[hc]at this;simp only[abd,abA]at this;split at this
  .exact .inl ⟨by assumption,this⟩
  .split at this
   .exact .inr ⟨by assumption,this⟩
   .cases this
 .have:=(J i k u ok d z D S).1.2;rw[O]at this;simp at this;exact this.symm
 .have:=(J i k u ok d z D E).2;rw[U]at this;simp at this;rcases this with h|h
  .exact .inl h
  .exact .inr (by simpa using h)
 .have:=X i k u ok z D;simp only[oY,gk]at this;have:=this.2;rw[t1,f1,t2,yo W]at this
  simpa using this
 .have:=I i u z;simp only[mK,gk]at this;have:=this.2;rw[U]at this;simp at this;exact⟨this.1,abV.1 this.2⟩
def rV.anc_lt(J:rV ops A):∀(i k:Nat) z,ops[i]?=some z->k<ops.size->isAnc A i k=true->k<i:=by
 intro i;induction i using Nat.strongRecOn with
 |ind i U=>
  intro k z I O h;obtain⟨d,S,D⟩:=J.anc i k z I O h;have u:=J.back i z I d S;rcases D with rfl|D
  .exact u
  .have E:d<ops.size:=oN (T8 I);have:=U d u k _ (aaj E) O D;omega
def rV.done(S:rV ops A){L:Nat->Prop}(X:∀(j:Nat) oj,ops[j]?=some oj->L j->∀d∈X6 oj,L d):∀(i k:Nat) D,ops[i]?=some D->k<ops.size->(∀d∈X6 D,L d)->isAnc A i k=true->L k:=by
 intro i;induction i using Nat.strongRecOn with
 |ind i ih=>
  intro k D O W U h;obtain⟨d,u,E⟩:=S.anc i k D O W h;have I:=S.back i D O d u;rcases E with rfl|E
  .exact U d u
  .have J:d<ops.size:=oN (T8 O);have z:ops[d]?=some ops[d]:=aaj J;exact ih d I k _ z W (X d _ z (U d u)) E
def nT(ops:Array Oper)(i:Nat):Nat:=((ops.toList.take i).filter fun o=>C0 o.op).length
def CO:nT ops 0=0:=rfl
def lL(h:ops[i]?=some o):nT ops (i+1)=nT ops i+if C0 o.op=true then 1 else 0:=by
 have u:ops.toList[i]?=some o:=by simpa using h
 unfold nT;rw[abJ,u,ac3,ib]
 congr 1
 simp only[Option.toList_some,adm,aea];split<;>simp
def LS(i:Nat):nT ops i<=nT ops (i+1):=by
 cases h:ops[i]? with
 |some o=>rw[lL h];omega
 |none=>
  have:ops.size<=i:=by simpa using h
  unfold nT;rw[A2 (by simpa using this),A2 (by simp;omega)];exact lR
def vP(h:i<=k):nT ops i<=nT ops k:=by
 induction k with
 |zero=>
  have:i=0:=oM;subst this;exact lR
 |succ k z=>
  by_cases u:i=k+1
  .subst u;exact lR
  .exact abw (z oM) (LS k)
def jS(h:ops[i]?=some o)(z:C0 o.op=true)(D:i<k):nT ops i<nT ops k:=by
 have u:=lL h;rw[cA z]at u;have:=vP (ops:=ops) (show i+1<=k from oM);omega
def vO(z:ops[i]?=some u)(D:ops[k]?=some ok)(E:C0 u.op=true)(I:C0 ok.op=true)(h:nT ops i=nT ops k):i=k:=by
 rcases adO i k with q|q|q
 .have:=jS z E q;omega
 .exact q
 .have:=jS D I q;omega
def Ny:∀(n m:Nat),m<nT ops n->∃i o,i<n/\ops[i]?=some o/\C0 o.op=true/\nT ops i=m:=by
 intro n;induction n with
 |zero=>intro m h;rw[CO]at h;omega
 |succ n J=>
  intro m h;by_cases D:m<nT ops n
  .obtain⟨i,o,O,z⟩:=J m D;exact⟨i,o,oM,z⟩
  .cases u:ops[n]? with
   |none=>
    have E:ops.size<=n:=by simpa using u
    have:nT ops (n+1)=nT ops n:=by
     unfold nT;rw[A2 (by simp;omega),A2 (by simp;omega)]
    omega
   |some o=>
    rw[lL u]at h;split at h
    next I=>exact⟨n,o,oM,u,I,oM⟩
    .omega
def isT(ops:Array Oper)(i:Nat):Bool:=match ops[i]? with|some o=>C0 o.op|none=>false
def xY(h:ops[i]?=some o):isT ops i=C0 o.op:=by simp [isT,h]
def lh:∀c,((List.range c).filter (isT ops)).length=nT ops c:=by
 intro c;induction c with
 |zero=>rfl
 |succ c z=>
  rw[acA,ac3,ib,z];cases h:ops[c]? with
  |some o=>
   rw[lL h]
   congr 1
   simp only[adm,xY h,aea];split<;>rfl
  |none=>
   have u:ops.size<=c:=by simpa using h
   have:nT ops (c+1)=nT ops c:=by
    unfold nT;rw[A2 (by simp;omega),A2 (by simp;omega)]
   rw[this];simp [isT,h]
def uH(h:ops[c]?=some o)(z:C0 o.op=true):(W7 ops)[nT ops c]?=some c:=by
 have key:∀n,c<n->((List.range n).filter (isT ops))[nT ops c]?=some c:=by
  intro n;induction n with
  |zero=>intro h;omega
  |succ n D=>
   intro E;rw[acA,ac3];by_cases u:c<n
   .rw[xd]
    .exact D u
    .rw[lh];exact jS h z u
   .have:c=n:=oM;subst this;rw[aao (by rw[lh];exact lR),lh,ace];simp [xY h,z]
 exact key ops.size (T8 h)
def Dd{α:Type}(q:α->Bool):∀(l:List α)(j:Nat),(j<(l.takeWhile q).length->∃x,l[j]?=some x/\q x=true)/\((l.takeWhile q).length<j->j<=l.length->∃x,l[(l.takeWhile q).length]?=some x/\q x=false)
 |[],j=>⟨fun h=>by simp at h,fun h k=>by simp at h k;omega⟩
 |a::l,j=>by
  rw[List.takeWhile_cons];cases h:q a with
  |true=>
   simp only[aab,A1];refine⟨fun D=>?_,fun D E=>?_⟩
   .cases j with
    |zero=>exact⟨a,rfl,h⟩
    |succ j=>obtain⟨x,u,z⟩:=(Dd q l j).1 oM;exact⟨x,by simpa using u,z⟩
   .obtain⟨x,u,z⟩:=(Dd q l (j-1)).2 oM oM;exact⟨x,by simpa using u,z⟩
  |false=>
   simp only[bF,aaG];exact⟨fun D=>oM,fun D E=>⟨a,rfl,h⟩⟩
def dD(ops:Array Oper)(A:List Nat)(i:Nat):Nat×Nat:=vM A (W7 ops) i
def Ka(h:j<(dD ops A i).1):∃c o,ops[c]?=some o/\C0 o.op=true/\nT ops c=j/\isAnc A i c=true:=by
 obtain⟨c,E,O⟩:=(Dd (fun c=>isAnc A i c) (W7 ops) j).1 h;have z:c∈W7 ops:=mG E;simp only[W7,abz,aaz]at z;obtain⟨o,D⟩:∃o,ops[c]?=some o:=⟨ops[c],aaj z.1⟩
 have J:C0 o.op=true:=by have:=z.2;simpa [D] using this
 refine⟨c,o,D,J,?_,O⟩;have I:=uH D J;have S:(W7 ops).Nodup:=List.Pairwise.filter _ adn;have u:nT ops c<(W7 ops).length:=(gS I).1;exact((List.getElem?_inj u S).1 (I.trans E.symm))
def Rk(h:(dD ops A i).2<j)(U:j<=nT ops ops.size):∃c o,ops[c]?=some o/\C0 o.op=true/\nT ops c<j/\isAnc A c i=true:=by
 have W:(W7 ops).length=nT ops ops.size:=lh ops.size;obtain⟨c,E,O⟩:=(Dd (fun c=> !isAnc A c i) (W7 ops) j).2 h oM;have z:c∈W7 ops:=mG E;simp only[W7,abz,aaz]at z;obtain⟨o,D⟩:∃o,ops[c]?=some o:=⟨ops[c],aaj z.1⟩
 have J:C0 o.op=true:=by have:=z.2;simpa [D] using this
 refine⟨c,o,D,J,?_,by simpa using O⟩;have I:=uH D J;have S:(W7 ops).Nodup:=List.Pairwise.filter _ adn;have u:nT ops c<(W7 ops).length:=(gS I).1;have:nT ops c=(dD ops A i).2:=(List.getElem?_inj u S).1 (I.trans E.symm);omega
structure Tr(P:Program)(C:B9)(ops:Array Oper)(A:List Nat)(n:Nat)(E:Nat->Env)(V:Nat->aet)(K:Nat->d7):Prop where
 step:∀(i:Nat) o,i<n->ops[i]?=some o->E (i+1)=L7 (E i) o.dst (V i)
 nl:∀(i:Nat) o,i<n->ops[i]?=some o->ak ops (E i) o=false
 off:∀(i:Nat) o,i<n->ops[i]?=some o->F0 ops (E i) o=false->V i=undef/\(C0 o.op=true->K (nT ops i+1)=K (nT ops i))
 turn:∀(i:Nat) o,i<n->ops[i]?=some o->F0 ops (E i) o=true->C0 o.op=true->∃r,aop P C o.op (E i) (K (nT ops i))=some (V i,r)/\K (nT ops i+1)=r.getD (K (nT ops i))
 pure:∀(i:Nat) o,i<n->ops[i]?=some o->F0 ops (E i) o=true->C0 o.op=false->rdK o.op=true->∀j,j<=nT ops n->(dD ops A i).1<=j->j<=(dD ops A i).2->aop P noC o.op (E i) (K j)=some (V i,none)
 flat:∀(i:Nat) o,i<n->ops[i]?=some o->F0 ops (E i) o=true->C0 o.op=false->rdK o.op=false->∀H2,aop P noC o.op (E i) H2=some (V i,none)
def xj{P:Program}:∀{z:List (Op×Env×aet×Nat)}{j:Nat}{H:d7},uY P z j H->∀o e v D,(o,e,v,D)∈z->j<=D->aop P noC o e H=some (v,none)
 |(o',e',v',hi')::r,j,H,h,o,e,v,D,u,hj=>by
  rcases aam.1 u with u|u
  .cases u;exact h.1 hj
  .exact xj h.2 o e v D u hj
def xi{P:Program}{e:Env}:∀{z:List (Nat×d7)},uX P o e v lo z->∀j K,(j,K)∈z->lo<=j->aop P noC o e K=some (v,none)
 |(j',K')::r,h,j,K,u,hj=>by
  rcases aam.1 u with u|u
  .cases u;exact h.1 hj
  .exact xi h.2 j K u hj
def zB{P:Program}{e:Env}(u:C0 o=false)(h:rdK o=false):aop P C o e H=aop P C o e H2:=by
 cases o<;>simp only[C0,rdK,ac4,abM]at u h<;>rfl
def IC(h:ops[i]?=some o):(lI ops).drop i=(o,dD ops (F5 ops.toList []) i)::(lI ops).drop (i+1):=by
 have u:i<(lI ops).length:=by simp [lI];exact T8 h
 rw[aav u]
 congr 1
 have z:ops.toList[i]?=some o:=by simpa using h
 have:(lI ops)[i]?=some (o,dD ops (F5 ops.toList []) i):=by
  simp only[lI,aaS,List.getElem?_zipIdx,z,aaU,aaH];rfl
 exact aal ((yv u).symm.trans this)
def EV{P:Program}(hM:rV ops (F5 ops.toList [])):∀(g i:Nat)(t:Nat)(Ks:List (Nat×d7))(W:List (Op×Env×aet×Nat))(E:Nat->Env)(V:Nat->aet)(K:Nat->d7),g+i=ops.size->t=nT ops i->
  Tr P C ops (F5 ops.toList []) i E V K->(∀j,j<nT ops i->(j,K j)∈Ks)->(∀(x:Nat) o,x<i->ops[x]?=some o->F0 ops (E x) o=true->C0 o.op=false->rdK o.op=true->(o.op,E x,V x,(dD ops (F5 ops.toList []) x).2)∈W)->
  M0 P C ops t Ks W ((lI ops).drop i) (E i) (K (nT ops i))=some (e',H')->
  ∃E' V' K',Tr P C ops (F5 ops.toList []) ops.size E' V' K'/\E' 0=E 0/\K' 0=K 0/\E' ops.size=e'/\K' (nT ops ops.size)=H':=by
 intro g;induction g with
 |zero=>
  intro i t Ks W E V K hg U hT hK hO h;have:i=ops.size:=oM;subst this;rw[dN (by simp [lI])]at h;simp only[M0,aaa,aah]at h;exact⟨E,V,K,hT,rfl,rfl,h.1,h.2⟩
 |succ g ih=>
  intro i t Ks W E V K hg U hT hK hO h;subst U;obtain⟨o,ho⟩:∃o,ops[i]?=some o:=⟨ops[i]'oM,aaj oM⟩
  rw[IC ho]at h;obtain⟨d4,d3⟩:∃a b,dD ops (F5 ops.toList []) i=(a,b):=⟨_,_,rfl⟩
  have D:=lL ho;rw[show dD ops (F5 ops.toList []) i=((dD ops (F5 ops.toList []) i).1,(dD ops (F5 ops.toList []) i).2) from rfl]at h;simp only[M0]at h;split at h
  .cases h
  rename_i a8;have a8:ak ops (E i) o=false:=by simpa using a8
  have a1:∀(v:aet)(H2:d7)(a2:List (Nat×d7))(X:List (Op×Env×aet×Nat)),
    (C0 o.op=false->H2=K (nT ops i))->
    (F0 ops (E i) o=false->v=undef/\H2=K (nT ops i))->
    (F0 ops (E i) o=true->C0 o.op=true->∃r,aop P C o.op (E i) (K (nT ops i))=some (v,r)/\H2=r.getD (K (nT ops i)))->
    (F0 ops (E i) o=true->C0 o.op=false->rdK o.op=true->∀j,j<=nT ops i->(dD ops (F5 ops.toList []) i).1<=j->aop P noC o.op (E i) (K j)=some (v,none))->
    (F0 ops (E i) o=true->C0 o.op=false->rdK o.op=false->∀H2,aop P noC o.op (E i) H2=some (v,none))->
    (C0 o.op=true->∀(x:Nat) S,x<i->ops[x]?=some S->F0 ops (E x) S=true->C0 S.op=false->rdK S.op=true->nT ops i+1<=(dD ops (F5 ops.toList []) x).2->aop P noC S.op (E x) H2=some (V x,none))->
    (∀j,j<nT ops i->(j,K j)∈a2)->(C0 o.op=true->(nT ops i,K (nT ops i))∈a2)->
    (∀q,q∈W->q∈X)->(F0 ops (E i) o=true->C0 o.op=false->rdK o.op=true->(o.op,E i,v,(dD ops (F5 ops.toList []) i).2)∈X)->
    M0 P C ops (nT ops (i+1)) a2 X ((lI ops).drop (i+1)) (L7 (E i) o.dst v) H2=some (e',H')->
    ∃E' V' K',Tr P C ops (F5 ops.toList []) ops.size E' V' K'/\E' 0=E 0/\K' 0=K 0/\E' ops.size=e'/\K' (nT ops ops.size)=H':=by
   intro v H2 a2 X c0 c3 c4 c5 c7 c6 c8 c9 d0 d1 hr;obtain⟨E2,b2⟩:=eY (fun x=>if x<=i then E x else L7 (E i) o.dst v:Nat->Env);obtain⟨V2,b4⟩:=eY (fun x=>if x=i then v else V x:Nat->aet);obtain⟨K2,b3⟩:=eY (fun x=>if x<=nT ops i then K x else H2:Nat->d7);have eE:∀x,x<=i->E2 x=E x:=fun x hx=>by rw[b2];exact cA hx
   have b1:E2 (i+1)=L7 (E i) o.dst v:=by rw[b2];exact bt oM
   have eV:∀x,x≠i->V2 x=V x:=fun x hx=>by rw[b4];exact bt hx
   have a3:V2 i=v:=by rw[b4];exact cA rfl
   have eK:∀x,x<=nT ops i->K2 x=K x:=fun x hx=>by rw[b3];exact cA hx
   have a5:C0 o.op=true->K2 (nT ops i+1)=H2:=fun _=>by rw[b3];exact bt oM
   have b8:K2 (nT ops (i+1))=H2:=by
    cases u:C0 o.op with
    |true=>rw[D,cA u];exact a5 u
    |false=>rw[D,bt (by simp [u]),aaf,eK _ lR,c0 u]
   have b6:∀x,x<i->nT ops x<=nT ops i:=fun x hx=>vP oM;have b7:∀(x:Nat) S,x<i->ops[x]?=some S->C0 S.op=true->nT ops x+1<=nT ops i:=fun x S hx h1 h2=>jS h1 h2 hx;have b9:Tr P C ops (F5 ops.toList []) (i+1) E2 V2 K2:=by
    refine⟨fun x S hx z=>?_,fun x S hx z=>?_,fun x S hx z J=>?_,fun x S hx z J U=>?_,fun x S hx z J U I j hj a6 b5=>?_,fun x S hx z J U I H3=>?_⟩
    .by_cases O:x=i
     .subst O;have:S=o:=aal (z.symm.trans ho);subst this;rw[b1,eE x lR,a3]
     .rw[eE (x+1) oM,eE x oM,eV x O];exact hT.step x S oM z
    .by_cases O:x=i
     .subst O;have:S=o:=aal (z.symm.trans ho);subst this;rw[eE x lR];exact a8
     .rw[eE x oM];exact hT.nl x S oM z
    .by_cases O:x=i
     .subst O;have:S=o:=aal (z.symm.trans ho);subst this;rw[eE x lR]at J;obtain⟨q1,q2⟩:=c3 J;exact⟨by rw[a3];exact q1,fun U=>by rw[a5 U,eK _ lR];exact q2⟩
     .rw[eE x oM]at J;obtain⟨q1,q2⟩:=hT.off x S oM z J;exact⟨by rw[eV x O];exact q1,fun U=>by rw[eK _ (b7 x S oM z U),eK _ (b6 x oM)];exact q2 U⟩
    .by_cases O:x=i
     .subst O;have:S=o:=aal (z.symm.trans ho);subst this;rw[eE x lR]at J ⊢;rw[eK _ lR,a3,a5 U];exact c4 J U
     .rw[eE x oM]at J ⊢;rw[eV x O,eK _ (b6 x oM),eK _ (b7 x S oM z U)];exact hT.turn x S oM z J U
    .by_cases O:x=i
     .subst O;have:S=o:=aal (z.symm.trans ho);subst this;rw[eE x lR]at J ⊢;rw[D,bt (by simp [U]),aaf]at hj;rw[a3,eK j hj];exact c5 J U I j hj a6
     .rw[eE x oM]at J ⊢;rw[eV x O];by_cases a4:j<=nT ops i
      .rw[eK j a4];exact hT.pure x S oM z J U I j a4 a6 b5
      .cases u:C0 o.op with
       |false=>rw[D,bt (by simp [u])]at hj;omega
       |true=>
        rw[D,cA u]at hj;have:j=nT ops i+1:=oM;subst this;rw[a5 u];exact c6 u x S oM z J U I b5
    .by_cases O:x=i
     .subst O;have:S=o:=aal (z.symm.trans ho);subst this;rw[eE x lR]at J ⊢;rw[a3];exact c7 J U I H3
     .rw[eE x oM]at J ⊢;rw[eV x O];exact hT.flat x S oM z J U I H3
   have d2:M0 P C ops (nT ops (i+1)) a2 X ((lI ops).drop (i+1)) (E2 (i+1)) (K2 (nT ops (i+1)))=some (e',H'):=by rw[b1,b8];exact hr
   obtain⟨E',V',K',q1,q2,q3,q4⟩:=ih (i+1) _ a2 X E2 V2 K2 oM rfl b9 (fun j hj=>by
     by_cases a4:j<nT ops i
     .rw[eK j oM];exact c8 j a4
     .cases u:C0 o.op with
      |false=>rw[D,bt (by simp [u])]at hj;omega
      |true=>
       rw[D,cA u]at hj;have:j=nT ops i:=oM;subst this;rw[eK _ lR];exact c9 u) (fun x S hx z J U I=>by
     by_cases O:x=i
     .subst O;have:S=o:=aal (z.symm.trans ho);subst this;rw[eE x lR]at J ⊢;rw[a3];exact d1 J U I
     .rw[eE x oM]at J ⊢;rw[eV x O];exact d0 _ (hO x S oM z J U I)) d2
   exact⟨E',V',K',q1,by rw[q2,eE 0 oM],by rw[q3,eK 0 oM],q4⟩
  cases J:F0 ops (E i) o with
  |true=>
   rw[cA J]at h;cases u:C0 o.op with
   |true=>
    rw[cA u]at h;split at h
    .rename_i v r a7;split at h
     .rename_i hc;refine a1 v (r.getD (K (nT ops i))) _ W (fun q=>by rw[u]at q;cases q) (fun q=>by rw[J]at q;cases q) (fun _ _=>⟨r,a7,rfl⟩) (fun _ q=>by rw[u]at q;cases q) (fun _ q=>by rw[u]at q;cases q) (fun _ x S hx z b0 a9 I h2=>xj hc _ _ _ _ (hO x S hx z b0 a9 I) h2)
       (fun j hj=>abe _ (hK j hj)) (fun _=>ac5 ..) (fun q hq=>hq) (fun _ q=>by rw[u]at q;cases q) ?_
      rw[D,cA u];exact h
     .cases h
    .cases h
   |false=>
    rw[bt (by simp [u])]at h;split at h
    .rename_i v a7;have hn:nT ops (i+1)=nT ops i:=by rw[D,bt (by simp [u])];rfl
     cases I:rdK o.op with
     |true=>
      rw[cA I]at h;split at h
      .rename_i hc;refine a1 v (K (nT ops i)) Ks ((o.op,E i,v,(dD ops (F5 ops.toList []) i).2)::W) (fun _=>rfl) (fun q=>by rw[J]at q;cases q) (fun _ q=>by rw[u]at q;cases q) (fun _ _ _ j hj a6=>?_) (fun _ _ q=>by rw[I]at q;cases q) (fun q=>by rw[u]at q;cases q)
        hK (fun q=>by rw[u]at q;cases q) (fun q hq=>abe _ hq) (fun _ _ _=>ac5 ..) ?_
       .by_cases a4:j<nT ops i
        .exact xi hc j _ (hK j a4) a6
        .have:j=nT ops i:=oM;subst this;exact a7
       .rw[hn];exact h
      .cases h
     |false=>
      rw[bt (by simp [I])]at h;refine a1 v (K (nT ops i)) Ks W (fun _=>rfl) (fun q=>by rw[J]at q;cases q) (fun _ q=>by rw[u]at q;cases q) (fun _ _ q=>by rw[I]at q;cases q) (fun _ _ _ H3=>by rw[zB u I (H2:=K (nT ops i))];exact a7) (fun q=>by rw[u]at q;cases q)
       hK (fun q=>by rw[u]at q;cases q) (fun q hq=>hq) (fun _ _ q=>by rw[I]at q;cases q) ?_
      rw[hn];exact h
    .cases h
  |false=>
   rw[bt (by simp [J])]at h;cases u:C0 o.op with
   |true=>
    rw[cA u]at h;refine a1 undef (K (nT ops i)) _ W (fun _=>rfl) (fun _=>⟨rfl,rfl⟩) (fun q=>by rw[J]at q;cases q) (fun q=>by rw[J]at q;cases q) (fun q=>by rw[J]at q;cases q) (fun _ x S hx z b0 a9 I h2=>?_)
     (fun j hj=>abe _ (hK j hj)) (fun _=>ac5 ..) (fun q hq=>hq) (fun q=>by rw[J]at q;cases q) ?_
    .refine hT.pure x S hx z b0 a9 I (nT ops i) lR ?_ oM;apply aaN;intro hn;obtain⟨c,oc,h3,h4,h5,h6⟩:=Ka (ops:=ops) (A:=F5 ops.toList []) (i:=x) (j:=nT ops i) oM;have h7:=hM.anc_lt x c S z (T8 h3) h6;have h8:=jS h3 h4 h7;have h9:=vP (ops:=ops) (show x<=i from oM);omega
    .rw[D,cA u];exact h
   |false=>
    rw[bt (by simp [u])]at h;refine a1 undef (K (nT ops i)) Ks W (fun _=>rfl) (fun _=>⟨rfl,rfl⟩) (fun q=>by rw[J]at q;cases q) (fun q=>by rw[J]at q;cases q) (fun q=>by rw[J]at q;cases q) (fun q=>by rw[u]at q;cases q)
     hK (fun q=>by rw[u]at q;cases q) (fun q hq=>hq) (fun q=>by rw[J]at q;cases q) ?_
    rw[D,bt (by simp [u]),aaf];exact h
def Ml{e e':Env}(h:∀t,x= .tmp t->e.g t=e'.g t):opv e x=opv e' x:=by
 cases x<;>first|rfl|exact h _ rfl
def Du{P:Program}{e e':Env}(o:Op)(H:d7)(h:∀x∈o.operands.toList,opv e x=opv e' x):aop P C o e H=aop P C o e' H:=by
 have W:∀z:Array (Nat×Operand),(∀x∈z.toList.map (·.2),opv e x=opv e' x)->(z.toList.map fun(i,x)=>(i,opv e x))=(z.toList.map fun(i,x)=>(i,opv e' x)):=fun z E=>by
  apply acd;intro q hq;obtain⟨i,x⟩:=q;simp only[aah,aei];exact E x (aau.2 ⟨(i,x),hq,rfl⟩)
 have O:∀z:Array Operand,(∀x∈z.toList,opv e x=opv e' x)->z.toList.map (opv e)=z.toList.map (opv e'):=fun z E=>acd E;have S:∀x:Option Operand,(∀y∈x.toList,opv e y=opv e' y)->x.map (opv e)=x.map (opv e'):=fun x E=>by
  cases x with
  |none=>rfl
  |some y=>simp only[aaU,aaa];exact E y sM
 cases o
 case call c=>
  obtain⟨J,X,a1⟩:=c;simp only[Op.operands,Call.operands,abr,ns]at h;have U:=O X fun x D=>h x (.inr D);cases J with
  |value f=>
   have hf:=h f (.inl sM);simp only[aop,iE,hf,U]
  |builtin b=>simp only[aop,iE,U]
  |invoke r m=>rfl
 case build t z=>simp only[aop];rw[W z (fun x D=>h x (by simpa [Op.operands] using D))]
 case buildSlice t n z=>simp only[aop];rw[W z (fun x D=>h x (by simpa [Op.operands] using D))]
 case makeFunc fn first u=>
  simp only[Op.operands,abr,ns]at h;simp only[aop];rw[O first (fun x D=>h x (.inl D)),O u (fun x D=>h x (.inr D))]
 case slice t x lo hi mx=>
  simp only[Op.operands,abr,ns,adh]at h;simp only[aop];rw[h x (.inl (.inl (.inl sM))),S lo (fun y I=>h y (.inl (.inl (.inr I)))),S hi (fun y I=>h y (.inl (.inr I))),S mx (fun y I=>h y (.inr I))]
 case makeMap t r=>cases r<;>rfl
 case next it b=>
  simp only[Op.operands,aam,abf,aco,forall_eq]at h;cases b
  .rfl
  .simp only[aop,h]
 all_goals first
  |rfl
  |(simp only[Op.operands,aam,abf,aco,forall_eq_or_imp,forall_eq]at h
    simp only[aop,h])
end
section
variable{P:Program}{base:Bs}{w0:World}{φ:List Loc}{S:List Blk}{w:World}{nt:Nat}{e:Env}{a:Act}
def jJ(base:Bs)(w0:World)(φ:List Loc)(H:d7)(w:World)(nt:Nat)(ds:List Deferred)(e':Env)(H':d7)(K:Act->World->Prop):Prop:=
 ∀φ' a' w',Ext φ φ'->ER φ' nt e' a'->WR base w0 φ' H'.bs w'->Fr φ H.bs H'.low w w'->a'.defers=ds->K a' w'
def aX{ops:Array Oper}(h:io nt ops=true)(u:o∈ops.toList):o.op.operands.toList.all D0=true/\ii nt o.dst=true:=by
 have:=aaB.1 h o u
 simpa only[gk] using this
def Z1{ops:Array Oper}(h:io nt ops=true)(j:Nat)(u:Oper)(d:Nat)(I:ops[j]?=some u)(z:u.dst=some d):d<nt:=by
 have:=(aX h (o:=u) (by simpa using Array.mem_of_getElem? I)).2;rw[z]at this
 simpa [ii] using this
def aD{o:Oper}(O:isCall o.op=true)(h:aop P C o.op e H=some (v,r)):
  ∃(c:Call)(f:Operand)(g:FuncId)(first u:Array aet),o.op= .call c/\c.callee= .value f/\opv e f= .func (.func g) first u/\C g (first.toList++c.args.toList.map (opv e)++u.toList) H=some (v,r):=by
 obtain⟨W,op,ty,a1,z,J⟩:=o;simp only at h O;cases op<;>first|(cases O;done)|skip
 rename_i c;obtain⟨I,as,U⟩:=c;cases I<;>first|(cases O;done)|skip
 rename_i f;simp only[aop,iE]at h;split at h
 next g first u X=>exact⟨_,f,g,first,u,rfl,rfl,X,h⟩
 .cases h
def lq(H:d7):Fr φ H.bs H.low w w:=fun _ _ _ _ _ _ _=>rfl
def jq(W:ER φ nt e a){o:Oper}{g:FuncId}{first I:Array aet}(J:o.op.operands.toList.all D0=true)(ho:o.op= .call c)(O:c.callee= .value f)
  (hf:opv e f= .func (.func g) first I):∃u h,a.eval f= .func (.func g) u h/\VRs φ (first.toList++c.args.toList.map (opv e)++I.toList) (u++c.args.map a.eval++h).toList:=by
 simp only[ho,Op.operands,Call.operands,O,abr,abN,gk,aaE,abQ,aa9]at J;have U:=W.op J.1;rw[hf]at U;generalize hz:a.eval f=z at U;cases U with
 |func g X h2 h3 h4=>
  rename_i u h;refine⟨u,h,rfl,?_⟩;simp only[abr,acx];exact VRs.append (VRs.append ⟨X,h2⟩ (W.args J.2)) ⟨h3,h4⟩
def R6(a:Act)(d:Option Tmp)(v:aet):(a.put d v).defers=a.defers:=by unfold Act.put;split<;>rfl
def au(P:Program)(C:B9):Prop:=∀base w0,lV P base w0 C
def iK(g:Nat->aet):∀(l:List Nat)(t:Nat),Env.g (l.map fun d=>(d,g d)) t=if t∈l then g t else undef
 |[],t=>by simp [Env.g]
 |d::l,t=>by
  simp only[aaQ,Env.g,iK g l t,aam];by_cases h:d=t
  .subst h;simp
  .rw[bt h];have:t≠d:=fun q=>h q.symm;simp [this]
def Ot{ops:Array Oper}{o:Oper}{Ei:Env}(a2:∀cs b,o.op≠ .select cs b) (a6:a.tmps.size=nt) (hv:∀d∈o.looksAt ops,VR φ (Ei.g d) (a.tmps.getD d undef)):
  ∃e1 h,ER φ nt e1 h/\(∀(C:B9) H,aop P C o.op e1 H=aop P C o.op Ei H)/\execOp h.eval o=execOp a.eval o/\F0 ops e1 o=F0 ops Ei o/\ak ops e1 o=ak ops Ei o/\Region.wanted o (yielded ops h.tmps)=Region.wanted o (yielded ops a.tmps):=by
 obtain⟨h,J⟩:∃h:Act,h=⟨Array.ofFn (n:=nt) fun t=>if t.1∈o.looksAt ops then a.tmps.getD t.1 undef else undef,a.defers⟩:=⟨_,rfl⟩
 have a5:h.tmps.size=nt:=by rw[J];simp
 have z:∀(t:Nat),t∈o.looksAt ops->h.tmps[t]?=a.tmps[t]?:=fun t u=>by
  by_cases a3:t<nt
  .rw[J,Array.getElem?_ofFn,ab0 a3];simp only[cA u];have:t<a.tmps.size:=oM;simp [this]
  .rw[adc oM,adc oM]
 have a4:∀(t:Nat),t∉o.looksAt ops->h.tmps.getD t undef=undef:=fun t u=>by
  rw[sW,J,Array.getElem?_ofFn];split
  .simp [u]
  .rfl
 have I:∀(t:Nat),t∈o.looksAt ops->h.tmps.getD t undef=a.tmps.getD t undef:=fun t u=>by
  rw[sW,sW,z t u]
 have X:∀x∈o.op.operands.toList,∀t,x= .tmp t->t∈o.looksAt ops:=fun x hx t O=>by
  subst O;exact acp _ (adA.2 ⟨.tmp t,hx,rfl⟩)
 refine⟨(o.looksAt ops).map fun d=>(d,Ei.g d),h,⟨a5,fun t=>?_⟩,fun C H=>Du o.op H fun x hx=>Ml fun t O=>?_,execOp_congr o a2 fun x hx=>?_,?_,?_,?_⟩
 .rw[iK];by_cases u:t∈o.looksAt ops
  .rw[cA u,I t u];exact hv t u
  .rw[bt u,a4 t u];exact VR.undef' φ
 .rw[iK,cA (X x hx t O)]
 .cases x with
  |tmp t=>exact I t (X _ (by simpa using hx) t rfl)
  |_=>rfl
 .unfold F0;cases W:o.guard with
  |none=>rfl
  |some q=>
   obtain⟨j,b⟩:=q;simp only;cases U:(ops[j]?).bind (·.dst)with
   |none=>rfl
   |some d=>
    have:d∈o.looksAt ops:=by
     refine adi _ ?_;simp [W,U]
    simp only[iK,cA this]
 .unfold ak;cases W:o.guard with
  |none=>rfl
  |some q=>
   obtain⟨j,b⟩:=q;simp only;cases U:(ops[j]?).bind (·.dst)with
   |none=>rfl
   |some d=>
    have:d∈o.looksAt ops:=by
     refine adi _ ?_;simp [W,U]
    simp only[iK,cA this]
 .unfold Region.wanted;cases W:o.guard with
  |none=>rfl
  |some q=>
   obtain⟨j,b⟩:=q;simp only[yielded];cases U:(ops[j]?).bind (·.dst)with
   |none=>rfl
   |some d=>
    have:d∈o.looksAt ops:=by
     refine adi _ ?_;simp [W,U]
    simp only[aas,z d this]
def Bs.add(base:Bs)(Q:Nat->Prop):Bs:=⟨base.ro,fun k=>base.pr k\/Q k,fun k h=> .inl (base.sub k h)⟩
def BR.raise{Q:Nat->Prop}(h:BR base φ B l w)(u:B.mine=true->¬Q l.blk):BR (base.add Q) φ B l w:=by
 cases B with
 |dead=>trivial
 |cells c own sz=>
  obtain⟨I,J,O,U,W⟩:=h;refine⟨I,J,O,U,fun z=>?_⟩;obtain⟨X,k2⟩:=W z;exact⟨fun q=>q.elim X (u (by simpa [Blk.mine] using z)),k2⟩
 |map es=>exact⟨fun q=>q.elim h.1 (u rfl),h.2⟩
 |iter s p=>exact⟨fun q=>q.elim h.1 (u rfl),h.2⟩
def BR.lower{Q:Nat->Prop}(h:BR (base.add Q) φ B l w):BR base φ B l w:=by
 cases B with
 |dead=>trivial
 |cells c own sz=>
  obtain⟨u,z,I,J,O⟩:=h;refine⟨u,z,I,J,fun U=>?_⟩;obtain⟨W,X⟩:=O U;exact⟨fun q=>W (.inl q),X⟩
 |map es=>exact⟨fun q=>h.1 (.inl q),h.2⟩
 |iter s p=>exact⟨fun q=>h.1 (.inl q),h.2⟩
def WR.raise(h:WR base w0 φ S w)(Q:Nat->Prop)(O:∀k,Q k->k<w.heap.size) (U:∀(b:Nat) B l,S[b]?=some B->B.mine=true->φ[b]?=some l->¬Q l.blk):WR (base.add Q) w φ S w:=
 ⟨h.len,Bel.refl _ _,fun k I=>I.elim (h.size k) (O k),fun b B l u z=>(h.blk b B l u z).raise fun J=>U b B l u J z,h.sep⟩
def WR.lower{Q:Nat->Prop}(h:WR (base.add Q) w O I J)(u:Bel base.pr w0 w):WR base w0 O I J:=
 ⟨h.len,⟨h.below.os.trans u.os,h.below.tape.trans u.tape,h.below.output.trans u.output,abw u.size h.below.size,fun k z=>(h.below.block k (.inl z)).trans (u.block k z)⟩,
  fun k z=>h.size k (.inl z),fun b B l U W=>(h.blk b B l U W).lower,h.sep⟩
def WR.grow(h:WR base w0 φ S w)(J:But w O none)(z:Bel base.pr w0 O):WR base w0 φ S O:=by
 refine⟨h.len,z,fun k W=>aaF (h.size k W) J.1,fun b B l U X=>?_,h.sep⟩;have u:=h.blk b B l U X;by_cases I:B.mine=true
 .exact u.mono (Ext.refl φ) (J.2 _ (u.lt I).2 sM)
 .cases B with
  |dead=>trivial
  |cells c own sz=>
   have:own=false:=by simpa [Blk.mine] using I
   subst this;exact u.mono (Ext.refl φ) (J.2 _ (h.size _ u.below) sM)
  |map es=>exact absurd rfl I
  |iter s p=>exact absurd rfl I
def WR.snoc(h:WR base w0 φ S w)(hB:BR base (φ++[l]) B l w)(hs:∀(b:Nat) u z,S[b]?=some u->u.mine=true->φ[b]?=some z->z.blk≠l.blk):WR base w0 (φ++[l]) (S++[B]) w:=by
 have key:∀(b:Nat) u z,(S++[B])[b]?=some u->(φ++[l])[b]?=some z->(S[b]?=some u/\φ[b]?=some z)\/(b=S.length/\u=B/\z=l):=by
  intro b u z I J;by_cases O:b<S.length
  .rw[xd O]at I;rw[xd (by rw[h.len];exact O)]at J;exact .inl ⟨I,J⟩
  .rw[aao oM]at I;rw[aao (by rw[h.len];omega),h.len]at J;have h0:b-S.length=0:=by
    have:=(gS I).1;simp at this;omega
   rw[h0]at I J;simp at I J;exact .inr ⟨oM,I.symm,J.symm⟩
 refine⟨by simp [h.len],h.below,h.size,fun b u z I J=>?_,fun b b' B1 X l1 l2 a1 p1 p2 m1 m2 q1 q2=>?_⟩
 .rcases key b u z I J with⟨U,W⟩|⟨_,rfl,rfl⟩
  .exact(h.blk b u z U W).mono (Ext.snoc φ l) rfl
  .exact hB
 .rcases key b B1 l1 p1 q1 with⟨U,W⟩|⟨h0,rfl,rfl⟩<;>rcases key b' X l2 p2 q2 with⟨h3,h4⟩|⟨h5,rfl,rfl⟩
  .exact h.sep b b' B1 X l1 l2 a1 U h3 m1 m2 W h4
  .exact hs b B1 l1 U m1 W
  .exact fun q=>hs b' X l2 h3 m2 h4 q.symm
  .omega
def Qs{ty:TypeId}(O:∀k,base.pr k->k<w.heap.size) (I:VRs φ c xs) (u:∀x∈c,x.oneCell'=true):
  BR base φ (.cells c true sz) ⟨w.heap.size,0,xs.length,sz⟩ (w.alloc (.cells xs.toArray ty)):=by
 have h:(w.alloc (.cells xs.toArray ty)).heap[w.heap.size]?=some (.cells xs.toArray ty):=adb w _;refine⟨rfl,u,fun i x z=>?_,(by intro J;cases J),fun _=>⟨fC O,by show c.length<=xs.length;rw[I.1];exact lR,_,ty,(0,0),h,by simp,fun i z=>?_⟩⟩
 .obtain⟨y,W,U⟩:=I.g z;refine⟨y,?_,U⟩;unfold World.cell?;simp only[h,acg,bF,aaH];simp [W]
 .unfold World.frozen?;simp only[h];simp
def An{o:Oper}(hW:WR base w0 φ S w)(hE:ER φ nt e a)(X:o.op.operands.toList.all D0=true)(hf:bJ o.op=true)(h:aop P C o.op e H=some (v,r)):
  ∃(B:Blk)(mk:Nat->aet)(v':aet)(w1:World)(l:Loc),B.mine=true/\r=some (H.push B)/\v=mk H.n/\(execOp a.eval o).run P w= .ok (.value v') w1/\l.blk=w.heap.size/\But w w1 none/\Bel base.pr w0 w1/\BR base φ B l w1/\(∀(k:Nat)(o':Obj),w.heap[k]?=some o'->w1.heap[k]?=some o')/\∀(O:List Loc)(b:Nat),O[b]?=some l->VR O (mk b) v':=by
 have a1:∀{s:Sem aet}{c xs:LV}{ty:TypeId}{sz:Nat}{v':aet}(mk:Nat->aet),VRs φ c xs->(∀x∈c,x.oneCell'=true)->s.run P w= .ok v' (w.alloc (.cells xs.toArray ty))->execOp a.eval o=(do pure (.value (<-s)))->r=some (H.push (.cells c true sz))->v=mk H.n->
   (∀(O:List Loc)(b:Nat),O[b]?=some ⟨w.heap.size,0,xs.length,sz⟩->VR O (mk b) v')->
   ∃(B:Blk)(mk:Nat->aet)(v':aet)(w1:World)(l:Loc),B.mine=true/\r=some (H.push B)/\v=mk H.n/\(execOp a.eval o).run P w= .ok (.value v') w1/\l.blk=w.heap.size/\But w w1 none/\Bel base.pr w0 w1/\BR base φ B l w1/\(∀(k:Nat)(o':Obj),w.heap[k]?=some o'->w1.heap[k]?=some o')/\∀(O:List Loc)(b:Nat),O[b]?=some l->VR O (mk b) v':=by
  intro s c xs ty sz v' mk hx a3 a4 a8 hr hv a9;refine⟨.cells c true sz,mk,v',w.alloc (.cells xs.toArray ty),⟨w.heap.size,0,xs.length,sz⟩,rfl,hr,hv,by rw[a8];simp only[aac,a4,kB,aai],rfl,⟨by simp,fun j hj _=>abP _ _ _ hj⟩,hW.below.alloc hW.size _,Qs hW.size hx a3,fun k o' hk=>?_,a9⟩;rw[abP _ _ _ (gA hk).1];exact hk
 obtain⟨b1,op,ty,b2,a6,a7⟩:=o;simp only at h hf X;cases op<;>first|(cases hf;done)|skip
 case alloc t=>
  simp only[aop]at h;obtain⟨H',I,h2⟩:=C8 h;simp only[ZZ,aah]at I;obtain⟨z,hz,h3,h4⟩:=I;obtain⟨J,k1,k2,k3,k4⟩:=U9 hz w;subst k2;refine a1 (s:=Instr.alloc t true (.tuple #[])) (c:=J.cells.toList) (xs:=J.cells.toList) (ty:=t) (sz:=1) (v':= .pointer (some ⟨w.heap.size,0,none⟩)) (fun b=> .pointer (some ⟨b,0,none⟩)) (VRs.na0 k3) (jw k3) ?_ rfl (by rw[h2,<-h4]) h3.symm (fun O b hb=>VR.ptr (o:=0) hb);simp only[Instr.alloc,aac,k1,kB,newVar,newRow,newObj,Sem.run,aai,aaq,aa0];rfl
 case buildSlice t u ps=>
  simp only[aop]at h;simp only[Op.operands]at X;obtain⟨H',I,h2⟩:=C8 h;have hp:=hE.parts (xs:=ps) (by simpa using X);unfold T7 at I;split at I
  rotate_left
  .cases I
  rename_i e2 he;have hu:=Y6 he;split at I
  rotate_left
  .cases I
  rename_i z hz;split at I
  .cases I
  rename_i hb;split at I
  rotate_left
  .cases I
  rename_i cs a2;cases I;obtain⟨J,k1,k2,k3,k4⟩:=U9 hz w;subst k2;have a5:J.cells.toList.length≠0:=fun h=>hb (.inl h);obtain⟨cs',e1,e3⟩:=gC a2 (φ:=φ) (cs':=(List.replicate u J.cells.toList).flatten) (VRs.na0 (by
   simp only[ab6,abX];simp [k3])) hp
  refine a1 (s:=Instr.buildSlice t u ((ps.toList.map fun(i,x)=>(i,a.eval x)).toArray)) (c:=cs) (xs:=cs') (ty:=e2) (sz:=J.cells.toList.length) (v':= .slice (some ⟨w.heap.size,0,none⟩) u u) (fun b=> .slice (some ⟨b,0,none⟩) u u) e3 (xH a2 (jw (by simp only[ab6,abX];simp [k3])) (fun p hp=>by
    have:=(adM _).mp (fun h=>hb (.inr (.inr h)));exact fun x hx=>aaB.1 (aaB.1 this p hp) x hx)) ?_ ?_ h2 rfl (fun O b hb=>VR.exact (o:=0) hb)
  .have U:(Array.range (u*J.cells.toList.length)).map (fun i=>J.cells[i % J.cells.size]!)=(List.replicate u J.cells.toList).flatten.toArray:=by
    apply aaC.1;rw[<-QJ J.cells.toList u a5];simp
   have c1:¬u*J.cells.toList.length>2 ^ 24:=oM;by_cases W:u*J.cells.toList.length=0
   .have:u=0:=by
     rcases ad8.1 W with h|h
     .exact h
     .exact absurd h a5
    subst this;simp only[acX,adl]at e1;simp only[Instr.buildSlice,aac,aae hu,kB,C4 k4,bt c1,W,aab,aai];simp only[adN,ad9,e1,aac,newRow,newObj,Sem.run,aai,kB];rfl
   .simp only[Instr.buildSlice,aac,aae hu,kB,C4 k4,bt c1,bt W,k1,aai,U,e1,newRow,newObj,Sem.run];rfl
  .have b0:(ps.map fun(i,x)=>(i,a.eval x))=((ps.toList.map fun(i,x)=>(i,a.eval x)).toArray):=by apply aaC.1;simp
   simp only[execOp,b0]
def kw(e:Env)(d:Nat)(v:aet):L7 e (some d) v=(d,v)::e:=rfl
structure Rig(P:Program)(C:B9)(ops:Array Oper)(E:Nat->Env)(V:Nat->aet)(K:Nat->d7)(nt:Nat):Prop where
 mix:rV ops (F5 ops.toList [])
 tr:Tr P C ops (F5 ops.toList []) ops.size E V K
 okc:au P C
 okn:io nt ops=true
structure St(ops:Array Oper)(base:Bs)(w0:World)(V:Nat->aet)(K:Nat->d7)(e0:Env)(φ0:List Loc)(H0:d7)(ws:World)(nt:Nat)(ds:List Deferred)(m:Nat)(φ:List Loc)(L:Nat->Loc)(D:Nat->Prop)(a:Act)(w:World):Prop where
 closed:∀(i:Nat) o,ops[i]?=some o->D i->∀d∈X6 o,D d
 mle:m<=nT ops ops.size
 low:∀(i:Nat) o,ops[i]?=some o->C0 o.op=true->nT ops i<m->D i
 high:∀(i:Nat) o,ops[i]?=some o->C0 o.op=true->m<=nT ops i->D i->bJ o.op=true
 ext:Ext φ0 φ
 le:Le H0 (K m)
 wr:WR base w0 φ (K m).bs w
 fr:Fr φ0 H0.bs (K m).low ws w
 tsz:a.tmps.size=nt
 dfr:a.defers=ds
 t0:∀(t:Nat),(∀(i:Nat) o,ops[i]?=some o->D i->o.dst≠some t)->VR φ (e0.g t) (a.tmps.getD t undef)
 t1:∀(i:Nat) o(d:Nat),ops[i]?=some o->D i->o.dst=some d->(C0 o.op=true->nT ops i<m)->VR φ (V i) (a.tmps.getD d undef)
 pend:∀(i:Nat) o(d:Nat),ops[i]?=some o->D i->C0 o.op=true->m<=nT ops i->o.dst=some d->∃(B:Blk)(mk:Nat->aet),B.mine=true/\K (nT ops i+1)=(K (nT ops i)).push B/\V i=mk (K (nT ops i)).n/\BR base φ B (L i) w/\(∀(φ2:List Loc)(b:Nat),φ2[b]?=some (L i)->VR φ2 (mk b) (a.tmps.getD d undef))/\∀(b:Nat) B' l',(K m).bs[b]?=some B'->B'.mine=true->φ[b]?=some l'->l'.blk≠(L i).blk
 sep:∀(i j:Nat) oi oj,ops[i]?=some oi->ops[j]?=some oj->D i->D j->C0 oi.op=true->C0 oj.op=true->m<=nT ops i->m<=nT ops j->i≠j->(L i).blk≠(L j).blk
section
variable{C:B9}{ops:Array Oper}{E:Nat->Env}{V:Nat->Value}{K:Nat->d7}{e0:Env}{φ0:List Loc}{H0:d7}{ws:World}{ds:List Deferred}{m:Nat}{L:Nat->Loc}{D:Nat->Prop}
def St.absorb(hM:rV ops (F5 ops.toList []))(h:St ops base w0 V K e0 φ0 H0 ws nt ds m φ L D a w)(U:ops[i]?=some o)(ht:C0 o.op=true)(hn:nT ops i=m)(hD:D i):St ops base w0 V K e0 φ0 H0 ws nt ds (m+1) (φ++[L i]) L D a w:=by
 have hf:=h.high i o U ht oM hD;obtain⟨_,d,hd⟩:=hM.free i o U hf;obtain⟨B,mk,hm,hK,hV,hB,a6,hs⟩:=h.pend i o d U hD ht oM hd;rw[hn]at hK hV;have hx:=Ext.snoc φ (L i);have X:=jS U ht (T8 U);refine⟨h.closed,oM,fun j J z I X=>?_,fun j J z I a5=>h.high j J z I oM,h.ext.trans hx,by rw[hK];exact h.le.trans (Le.push _ _),?_,by rw[hK];exact h.fr,h.tsz,h.dfr,fun t q=>(h.t0 t q).mono hx,fun j J dj z u O X=>?_,fun j J dj z u I a5 O=>?_,fun j k J ok z hk u a3 I tk W h2=>h.sep j k J ok z hk u a3 I tk oM oM⟩
 .by_cases a2:nT ops j<m
  .exact h.low j J z I a2
  .have:j=i:=vO z U I ht oM;rw[this];exact hD
 .rw[hK];exact h.wr.snoc (hB.mono hx rfl) (fun b B' l' W h2 h3=>hs b B' l' W h2 h3)
 .by_cases a1:j=i
  .subst a1;have:J=o:=aal (z.symm.trans U);subst this;have:dj=d:=aal (O.symm.trans hd);subst this;rw[hV];exact a6 _ _ (T5 h.wr)
  .refine(h.t1 j J dj z u O fun I=>?_).mono hx;have:=X I;by_cases a2:nT ops j=m
   .exact absurd (vO z U I ht oM) a1
   .omega
 .obtain⟨B2,a7,q1,q2,q3,q4,q5,q6⟩:=h.pend j J dj z u I oM O;refine⟨B2,a7,q1,q2,q3,q4.mono hx rfl,q5,fun b B' l' W h2 h3=>?_⟩;rw[hK]at W;simp only[d7.push]at W;by_cases hb:b<(K m).bs.length
  .rw[xd hb]at W;rw[xd (by rw[h.wr.len];exact hb)]at h3;exact q6 b B' l' W h2 h3
  .have a4:=(gS W).1;rw[ib,A1,aaG]at a4;have:b=(K m).bs.length:=oM;subst this;rw[T5 h.wr]at h3;cases h3;exact h.sep i j o J U z hD u ht I oM oM (fun q=>by subst q;omega)
def St.norm(W:rV ops (F5 ops.toList [])):∀(g m:Nat)(φ:List Loc),g+m=nT ops ops.size->St ops base w0 V K e0 φ0 H0 ws nt ds m φ L D a w->∃U φ',St ops base w0 V K e0 φ0 H0 ws nt ds U φ' L D a w/\∀(i:Nat) o,ops[i]?=some o->C0 o.op=true->nT ops i=U->¬D i:=by
 intro g;induction g with
 |zero=>
  intro m φ X h;refine⟨m,φ,h,fun i o u I J=>?_⟩;have:=jS u I (T8 u);omega
 |succ g ih=>
  intro m φ X h;by_cases z:∃(i:Nat)(o:Oper),ops[i]?=some o/\C0 o.op=true/\nT ops i=m/\D i
  .obtain⟨i,o,u,I,J,O⟩:=z;exact ih (m+1) _ oM (h.absorb W u I J O)
  .exact⟨m,φ,h,fun i o u I J O=>z ⟨i,o,u,I,J,O⟩⟩
def MY(U:Rig P C ops E V K nt):∀(i k:Nat) ok(d:Nat),k<i->i<=ops.size->ops[k]?=some ok->ok.dst=some d->(E i).g d=V k:=by
 intro i;induction i with
 |zero=>intro k ok d W;omega
 |succ i X=>
  intro k ok d W hi u I;have h:ops[i]?=some ops[i]:=aaj oM;rw[U.tr.step i _ oM h];by_cases z:k=i
  .subst z;have:ok=ops[k]:=aal (u.symm.trans h);rw[<-this,I,kw,Env.g,cA rfl]
  .have O:ops[i].dst≠some d:=fun q=>z (U.mix.dst k i _ _ d u h I q);have:=X k ok d oM oM u I;cases J:ops[i].dst with
   |none=>exact this
   |some d2=>rw[kw,Env.g,bt (fun q=>O (by rw[J,q]))];exact this
def zn(J:Rig P C ops E V K nt):∀(i:Nat)(d:Nat),i<=ops.size->(∀(k:Nat) ok,k<i->ops[k]?=some ok->ok.dst≠some d)->(E i).g d=(E 0).g d:=by
 intro i;induction i with
 |zero=>intro d _ _;rfl
 |succ i O=>
  intro d W h;have u:ops[i]?=some ops[i]:=aaj oM;rw[J.tr.step i _ oM u];have:=O d oM fun k ok X=>h k ok oM;have I:=h i _ oM u;cases z:ops[i].dst with
  |none=>exact this
  |some U=>rw[kw,Env.g,bt (fun q=>I (by rw[z,q]))];exact this
def St.reads(hR:Rig P C ops E V K nt)(h0:E 0=e0)(h:St ops base w0 V K e0 φ0 H0 ws nt ds m φ L D a w)(X:ops[i]?=some o)(a7:¬D i)(O:∀d∈X6 o,D d) (a5:C0 o.op=true->bJ o.op=false->nT ops i=m):
  ∀d∈o.looksAt ops,VR φ ((E i).g d) (a.tmps.getD d undef):=by
 intro d hd;have hM:=hR.mix;by_cases W:∃(k:Nat)(ok:Oper),ops[k]?=some ok/\ok.dst=some d
 .obtain⟨k,ok,z,u⟩:=W;rcases hM.look i k o ok d X z u hd with⟨a3,I⟩|⟨b2,I⟩
  .have a1:D k:=hM.done h.closed i k o X (T8 z) O I;rw[MY hR i k ok d a3 (abK (T8 X)) z u];refine h.t1 k ok d z a1 u fun tk=>?_;cases a2:bJ ok.op with
   |true=>
    rcases hM.flo i k o ok d X z a2 u with⟨t1,f1⟩|a9
    .rw[<-a5 t1 f1];exact jS z tk a3
    .exact absurd hd a9
   |false=>
    apply aaN;intro b1;have:=h.high k ok z tk oM a1;rw[a2]at this;cases this
  .have a8:¬D k:=fun q=>a7 (hM.done h.closed k i ok z (T8 X) (h.closed k ok z q) I);rw[zn hR i d (abK (T8 X)) (fun k' b0 b3 a4 J=>by have:=hM.dst k k' ok b0 d z a4 u J;omega),h0];exact h.t0 d fun j oj hj a6 U=>a8 ((hM.dst k j ok oj d z hj u U)▸a6)
 .rw[zn hR i d (abK (T8 X)) (fun k ok _ z J=>W ⟨k,ok,z,J⟩),h0];exact h.t0 d fun j oj hj _ U=>W ⟨j,oj,hj,U⟩
def az(a:Act)(u:ii a.tmps.size d=true)(v:aet)(t:Nat):(a.put d v).tmps.getD t undef=if d=some t then v else a.tmps.getD t undef:=by
 cases d with
 |none=>rfl
 |some d=>
  simp only[ii,xo]at u;simp only[Act.put];by_cases h:d=t
  .subst h;rw[cA rfl];simp only[sW,aaw,aab,u,aa6]
  .rw[bt (fun q=>h (aal q))];simp only[sW,aaw,bt h]
def qY(a:Act)(d:Option Nat)(v:aet):(a.put d v).tmps.size=a.tmps.size:=by
 cases d with
 |none=>rfl
 |some d=>simp [Act.put]
def St.pure(hR:Rig P C ops E V K nt)(h:St ops base w0 V K e0 φ0 H0 ws nt ds m φ L D a w)(X:ops[i]?=some o)(a5:¬D i)(a2:∀d∈X6 o,D d) (ht:C0 o.op=false)  (hv:VR φ (V i) v'):
  St ops base w0 V K e0 φ0 H0 ws nt ds m φ L (fun x=>D x\/x=i) (a.put o.dst v') w:=by
 have hM:=hR.mix;have J:ii a.tmps.size o.dst=true:=by rw[h.tsz];exact(aX hR.okn (by simpa using Array.mem_of_getElem? X)).2
 have W:∀(j:Nat) z(d:Nat),ops[j]?=some z->D j->z.dst=some d->o.dst≠some d:=fun j z d I u U q=>a5 ((hM.dst j i z o d I X U q)▸u);refine⟨fun j z I u d U=>?_,h.mle,fun j z I O a4=> .inl (h.low j z I O a4),fun j z I O a3 u=>?_,h.ext,h.le,h.wr,h.fr,by rw[qY];exact h.tsz,by rw[R6];exact h.dfr,fun t q=>?_,fun j z d I u U a4=>?_,fun j z d I u O a3 U=>?_,fun j k z ok I hk u a1 O tk h1 h2 W=>?_⟩
 .rcases u with u|rfl
  .exact .inl (h.closed j z I u d U)
  .have:z=o:=aal (I.symm.trans X);subst this;exact .inl (a2 d U)
 .rcases u with u|rfl
  .exact h.high j z I O a3 u
  .have:z=o:=aal (I.symm.trans X);subst this;rw[ht]at O;cases O
 .rw[az a J,bt (q i o X (.inr rfl))];exact h.t0 t fun j z I u=>q j z I (.inl u)
 .rcases u with u|rfl
  .rw[az a J,bt (W j z d I u U)];exact h.t1 j z d I u U a4
  .have:z=o:=aal (I.symm.trans X);subst this;rw[az a J,cA U];exact hv
 .rcases u with u|rfl
  .rw[az a J,bt (W j z d I u U)];exact h.pend j z d I u O a3 U
  .have:z=o:=aal (I.symm.trans X);subst this;rw[ht]at O;cases O
 .rcases u with u|rfl
  .rcases a1 with a1|rfl
   .exact h.sep j k z ok I hk u a1 O tk h1 h2 W
   .have:ok=o:=aal (hk.symm.trans X);subst this;rw[ht]at tk;cases tk
  .have:z=o:=aal (I.symm.trans X);subst this;rw[ht]at O;cases O
def Cb(ops:Array Oper)(m:Nat)(L:Nat->Loc)(D:Nat->Prop)(k:Nat):Prop:=∃(j:Nat)(oj:Oper),ops[j]?=some oj/\D j/\C0 oj.op=true/\m<=nT ops j/\(L j).blk=k
def St.aside(X:rV ops (F5 ops.toList []))(h:St ops base w0 V K e0 φ0 H0 ws nt ds m φ L D a w):WR (base.add (Cb ops m L D)) w φ (K m).bs w:=by
 have key:∀(j:Nat) I,ops[j]?=some I->D j->C0 I.op=true->m<=nT ops j->(L j).blk<w.heap.size/\∀(b:Nat) B' l',(K m).bs[b]?=some B'->B'.mine=true->φ[b]?=some l'->l'.blk≠(L j).blk:=by
  intro j I J u O z;obtain⟨_,d,hd⟩:=X.free j I J (h.high j I J O z u);obtain⟨B,mk,q1,_,_,q4,_,q6⟩:=h.pend j I d J u O z hd;exact⟨(q4.lt q1).2,q6⟩
 refine h.wr.raise _ (fun k hk=>?_) (fun b B l W hm hl hq=>?_)
 .obtain⟨j,I,J,u,O,z,rfl⟩:=hk;exact(key j I J u O z).1
 .obtain⟨j,I,J,u,O,z,U⟩:=hq;exact(key j I J u O z).2 b B l W hm hl U.symm
def St.turn(h:St ops base w0 V K e0 φ0 H0 ws nt ds m φ L D a w)(hR:Rig P C ops E V K nt)(hφ:φ0.length=H0.bs.length)(ho:ops[i]?=some o)(a5:¬D i)(a1:∀d∈X6 o,D d) (ht:C0 o.op=true) (hn:nT ops i=m)   
  (hx:Ext φ φ') (O:Le (K m) (K (m+1))) (hv:VR φ' (V i) v') (hW:WR (base.add (Cb ops m L D)) w φ' (K (m+1)).bs w') (a7:Fr φ (K m).bs (K (m+1)).low w w'):
  St ops base w0 V K e0 φ0 H0 ws nt ds (m+1) φ' L (fun x=>D x\/x=i) (a.put o.dst v') w':=by
 have hM:=hR.mix;have U:ii a.tmps.size o.dst=true:=by rw[h.tsz];exact(aX hR.okn (by simpa using Array.mem_of_getElem? ho)).2
 have a4:∀(j:Nat) z(d:Nat),ops[j]?=some z->D j->z.dst=some d->o.dst≠some d:=fun j z d I u X q=>a5 ((hM.dst j i z o d I ho X q)▸u);have a8:=jS ho ht (T8 ho);have old:∀(j:Nat) z,ops[j]?=some z->(D j\/j=i)->C0 z.op=true->m+1<=nT ops j->D j:=fun j z I u J O=>by
  rcases u with u|rfl
  .exact u
  .omega
 refine⟨fun j z I u d X=>?_,oM,fun j z I J a3=>?_,fun j z I J O u=>h.high j z I J oM (old j z I u J O),h.ext.trans hx,h.le.trans O,hW.lower h.wr.below,?_,by rw[qY];exact h.tsz,by rw[R6];exact h.dfr,fun t q=>?_,fun j z d I u X a3=>?_,fun j z d I u J O X=>?_,fun j k z ok I hk u a6 J tk h1 h2=>h.sep j k z ok I hk (old j z I u J h1) (old k ok hk a6 tk h2) J tk oM oM⟩
 .rcases u with u|rfl
  .exact .inl (h.closed j z I u d X)
  .have:z=o:=aal (I.symm.trans ho);subst this;exact .inl (a1 d X)
 .by_cases a2:nT ops j<m
  .exact .inl (h.low j z I J a2)
  .exact .inr (vO I ho J ht oM)
 .exact Fr.trans h.ext h.le O hφ h.fr a7
 .rw[az a U,bt (q i o ho (.inr rfl))];exact(h.t0 t fun j z I u=>q j z I (.inl u)).mono hx
 .rcases u with u|rfl
  .rw[az a U,bt (a4 j z d I u X)];refine(h.t1 j z d I u X fun J=>?_).mono hx;have:=a3 J;by_cases a2:nT ops j=m
   .exact absurd ((vO I ho J ht oM)▸u) a5
   .omega
  .have:z=o:=aal (I.symm.trans ho);subst this;rw[az a U,cA X];exact hv
 .have W:=old j z I u J O;rw[az a U,bt (a4 j z d I W X)];obtain⟨B,mk,q1,q2,q3,q4,q5,q6⟩:=h.pend j z d I W J oM X;have hA:Cb ops m L D (L j).blk:=⟨j,z,I,W,J,oM,rfl⟩
  refine⟨B,mk,q1,q2,q3,q4.mono hx (hW.below.block _ (.inr hA)),q5,fun b B' l' h1 h2 h3 hq=>?_⟩;exact((hW.blk b B' l' h1 h3).lt h2).1 (.inr (hq▸hA))
def St.early(hR:Rig P C ops E V K nt)(h:St ops base w0 V K e0 φ0 H0 ws nt ds m φ L D a w)(ho:ops[i]?=some o)(b0:¬D i)(a4:∀d∈X6 o,D d) (ht:C0 o.op=true) (hf:bJ o.op=true) (hn:m<nT ops i) {B:Blk} {mk:Nat->aet}   {l:Loc}
  (hm:B.mine=true) (hK:K (nT ops i+1)=(K (nT ops i)).push B) (hV:V i=mk (K (nT ops i)).n) (hl:l.blk=w.heap.size) (a2:But w w1 none) (a5:Bel base.pr w0 w1) (hB:BR base φ B l w1) (b1:∀(k:Nat)(o':Obj),w.heap[k]?=some o'->w1.heap[k]?=some o') (b5:∀(φ2:List Loc)(b:Nat),φ2[b]?=some l->VR φ2 (mk b) v'):
  St ops base w0 V K e0 φ0 H0 ws nt ds m φ (fun x=>if x=i then l else L x) (fun x=>D x\/x=i) (a.put o.dst v') w1:=by
 have hM:=hR.mix;have O:ii a.tmps.size o.dst=true:=by rw[h.tsz];exact(aX hR.okn (by simpa using Array.mem_of_getElem? ho)).2
 have a9:∀(j:Nat) z(d:Nat),ops[j]?=some z->D j->z.dst=some d->o.dst≠some d:=fun j z d I u U q=>b0 ((hM.dst j i z o d I ho U q)▸u);have X:∀j,D j->j≠i:=fun j u q=>b0 (q▸u);have b2:∀(j:Nat) z,ops[j]?=some z->D j->C0 z.op=true->m<=nT ops j->(L j).blk<w.heap.size:=fun j z I u tj W=>by
  obtain⟨_,d,U⟩:=hM.free j z I (h.high j z I tj W u);obtain⟨B2,b3,q1,_,_,q4,_⟩:=h.pend j z d I u tj W U;exact(q4.lt q1).2
 refine⟨fun j z I u d U=>?_,h.mle,fun j z I tj a1=> .inl (h.low j z I tj a1),fun j z I tj W u=>?_,h.ext,h.le,h.wr.grow a2 a5,?_,by rw[qY];exact h.tsz,by rw[R6];exact h.dfr,fun t q=>?_,fun j z d I u U a1=>?_,fun j z d I u tj W U=>?_,fun j k z ok I hk u J tj tk h1 h2 a7=>?_⟩
 .rcases u with u|rfl
  .exact .inl (h.closed j z I u d U)
  .have:z=o:=aal (I.symm.trans ho);subst this;exact .inl (a4 d U)
 .rcases u with u|rfl
  .exact h.high j z I tj W u
  .have:z=o:=aal (I.symm.trans ho);subst this;exact hf
 .intro b B' l' hb a3 a6 a8;have h1:=h.fr b B' l' hb a3 a6 a8;have b4:Fr φ (K m).bs (K m).low w w1:=Fr.of_old h.wr b1;have hs:(K m).bs[b]?=some B':=by rw[h.le.same b hb (gS a3).1];exact a3
  rw[b4 b B' l' hb hs a6 (h.ext b l' a8),h1]
 .rw[az a O,bt (q i o ho (.inr rfl))];exact h.t0 t fun j z I u=>q j z I (.inl u)
 .rcases u with u|rfl
  .rw[az a O,bt (a9 j z d I u U)];exact h.t1 j z d I u U a1
  .have:z=o:=aal (I.symm.trans ho);subst this;have:=a1 ht;omega
 .rcases u with u|rfl
  .rw[az a O,bt (a9 j z d I u U)];obtain⟨B2,b3,q1,q2,q3,q4,q5,q6⟩:=h.pend j z d I u tj W U;simp only[bt (X j u)];exact⟨B2,b3,q1,q2,q3,q4.mono (Ext.refl φ) (a2.2 _ (q4.lt q1).2 sM),q5,q6⟩
  .have:z=o:=aal (I.symm.trans ho);subst this;rw[az a O,cA U];simp only[aab];refine⟨B,mk,hm,hK,hV,hB,b5,fun b B' l' h1 h2 h3=>?_⟩;have:=((h.wr.blk b B' l' h1 h3).lt h2).2;omega
 .rcases u with u|rfl
  .rcases J with J|rfl
   .simp only[bt (X j u),bt (X k J)];exact h.sep j k z ok I hk u J tj tk h1 h2 a7
   .simp only[bt (X j u),aab];have:=b2 j z I u tj h1;omega
  .rcases J with J|rfl
   .simp only[bt (X k J),aab];have:=b2 k ok hk J tk h2;omega
   .exact absurd rfl a7
def St.step(X:Rig P C ops E V K nt)(h0:E 0=e0)(b0:φ0.length=H0.bs.length)(h:St ops base w0 V K e0 φ0 H0 ws nt ds m φ L D a w)(a6:∀(i:Nat) o,ops[i]?=some o->C0 o.op=true->nT ops i=m->¬D i)   (O:ops[i]?=some o) (J:¬D i) (z:∀d∈X6 o,D d) {Q:Exit->Act->World->Prop}:
  wpOp P ops Q i (fun a' w'=>∃m' φ' L',St ops base w0 V K e0 φ0 H0 ws nt ds m' φ' L' (fun x=>D x\/x=i) a' w') a w:=by
 have hM:=X.mix;have hi:=T8 O;have d6:=fun cs b=>Region.noSelect_spec hM.sel i o cs b O;have d2:C0 o.op=true->m<=nT ops i:=fun U=>by
  apply aaN;intro b1;exact J (h.low i o O U oM)
 have a8:C0 o.op=true->bJ o.op=false->nT ops i=m:=fun U hf=>by
  apply aaN;intro f7;have:=d2 U;obtain⟨k,ok,e8,hk,tk,f4⟩:=Ny (ops:=ops) i m oM;exact a6 k ok hk tk f4 (hM.done h.closed i k o O (T8 hk) z (hM.ord i k o ok O hk e8 U hf tk))
 obtain⟨e1,a1,hE,b2,a5,f5,e9,f6⟩:=Ot (P:=P) (ops:=ops) (o:=o) (Ei:=E i) d6 h.tsz (h.reads X h0 O J z a8);have a7:=(aX X.okn (by simpa using Array.mem_of_getElem? O)).1;have c6:Region.wanted o (yielded ops a.tmps)=F0 ops (E i) o:=by rw[<-f6,<-f5,hE.wanted ops o (Z1 X.okn) (by rw[e9];exact X.tr.nl i o hi O)]
 unfold wpOp;simp only[O];rw[c6];cases hw:F0 ops (E i) o with
 |true=>
  rw[cA rfl]
  left
  cases U:C0 o.op with
  |false=>
   have hc:isCall o.op=false:=by
    cases hc:isCall o.op with
    |false=>rfl
    |true=>
     unfold isCall at hc;split at hc
     next e6=>rw[e6]at U;cases U
     .cases hc
   have W:aop P noC o.op (E i) (K m)=some (V i,none):=by
    cases d5:rdK o.op with
    |false=>exact X.tr.flat i o hi O hw U d5 _
    |true=>
     refine X.tr.pure i o hi O hw U d5 m h.mle ?_ ?_
     .apply aaN;intro b1;obtain⟨c,oc,a4,b8,b9,c0⟩:=Ka (ops:=ops) (A:=F5 ops.toList []) (i:=i) (j:=m) oM;exact a6 c oc a4 b8 b9 (hM.done h.closed i c o O (T8 a4) z c0)
     .apply aaN;intro b1;obtain⟨c,oc,a4,b8,b9,c0⟩:=Rk (ops:=ops) (A:=F5 ops.toList []) (i:=i) (j:=m) oM h.mle;have e3:=h.low c oc a4 b8 b9;exact J (hM.done h.closed c i oc a4 hi (h.closed c oc a4 e3) c0)
   rw[<-b2]at W;obtain⟨v',hv,I⟩:=jz h.wr hE a7 hc W;unfold Oper.wp;rw[<-a5,I w h.wr.cls,ab9];exact⟨m,φ,L,h.pure X O J z U hv⟩
  |true=>
   obtain⟨r,W,a3⟩:=X.tr.turn i o hi O hw U;rw[<-b2]at W;by_cases hn:nT ops i=m
   .rw[hn]at W a3;have hA:=h.aside hM;cases hc:isCall o.op with
    |false=>
     cases r with
     |none=>
      have u:K (m+1)=K m:=a3;obtain⟨v',hv,I⟩:=jz hA hE a7 hc W;unfold Oper.wp;rw[<-a5,I w hA.cls,ab9];exact⟨m+1,φ,L,h.turn X b0 O J z U hn (Ext.refl φ) (by rw[u];exact Le.refl _) hv (by rw[u];exact hA) (by rw[u];exact lq _)⟩
     |some H2=>
      have u:K (m+1)=H2:=a3;obtain⟨v',w',φ',I,hx,hv,b6,c4⟩:=vQ hA hE a7 hc W;have c8:=h.turn X b0 O J z U hn hx (by rw[u];exact nN hc W) hv (by rw[u];exact b6) (by rw[u];exact c4);unfold Oper.wp;rw[<-a5];rcases I with I|⟨I,rfl⟩
      .rw[I,ab9];exact⟨m+1,φ',L,c8⟩
      .rw[I,aej];exact⟨m+1,φ',L,c8⟩
    |true=>
     obtain⟨c,f,g,first,c7,d3,b3,hf,c3⟩:=aD hc W;obtain⟨e2,b5,e7,b7⟩:=jq hE a7 d3 b3 hf;obtain⟨e5,f0,f3,c5⟩:=X.okc (base.add (Cb ops m L D)) w _ _ _ _ _ c3;have d1:=c5 φ w _ b7 hA;unfold Oper.wp;rw[<-a5,dK b3 (ty:=o.type) e7 e5 d3,aeb];simp only[aa0]at d1;refine d1.mono fun en w' a9=>?_;cases r with
     |none=>
      have u:K (m+1)=K m:=a3;obtain⟨rfl,b4⟩:=a9;exact⟨m+1,φ,L,h.turn X b0 O J z U hn (Ext.refl φ) (by rw[u];exact Le.refl _) (VR.na (f3 rfl)) (by rw[u];exact b4.wr) (by rw[u];exact fun b B l _ hB hd hl=>b4.same b B l hB hd hl)⟩
     |some H2=>
      have u:K (m+1)=H2:=a3;obtain⟨v',φ',rfl,hx,hv,b6,c4⟩:=a9;exact⟨m+1,φ',L,h.turn X b0 O J z U hn hx (by rw[u];exact f0 H2 rfl) hv (by rw[u];exact b6) (by rw[u];exact c4)⟩
   .have b1:m<nT ops i:=oN (d2 U);have hf:bJ o.op=true:=by
     cases hf:bJ o.op with
     |true=>rfl
     |false=>exact absurd (a8 U hf) hn
    obtain⟨B,mk,v',w1,l,f1,hr,hv,I,hl,d0,c9,hB,d4,f2⟩:=An h.wr hE a7 hf W;subst hr;unfold Oper.wp;rw[<-a5,I,ab9];exact⟨m,φ,_,h.early X O J z U hf b1 f1 a3 hv hl d0 c9 hB d4 f2⟩
 |false=>
  rw[bt acz];obtain⟨hV,e4⟩:=X.tr.off i o hi O hw;have hv:VR φ (V i) undef:=by rw[hV];exact VR.undef' φ
  cases U:C0 o.op with
  |false=>exact⟨m,φ,L,h.pure X O J z U hv⟩
  |true=>
   have hf:bJ o.op=false:=by
    cases hf:bJ o.op with
    |false=>rfl
    |true=>
     have:=(hM.free i o O hf).1;unfold F0 at hw;rw[this]at hw;cases hw
   have hn:=a8 U hf;have a2:=e4 U;rw[hn]at a2;exact⟨m+1,φ,L,h.turn X b0 O J z U hn (Ext.refl φ) (by rw[a2];exact Le.refl _) hv (by rw[a2];exact h.aside hM) (by rw[a2];exact lq _)⟩
def St.done(W:Rig P C ops E V K nt)(X:E 0=e0)(h:St ops base w0 V K e0 φ0 H0 ws nt ds m φ L D a w)(J:∀(i:Nat) o,ops[i]?=some o->C0 o.op=true->nT ops i=m->¬D i) (z:∀i,i<ops.size->D i):
  Ext φ0 φ/\ER φ nt (E ops.size) a/\WR base w0 φ (K (nT ops ops.size)).bs w/\Fr φ0 H0.bs (K (nT ops ops.size)).low ws w/\a.defers=ds:=by
 have U:m=nT ops ops.size:=by
  apply aaN;intro a1;obtain⟨i,o,hi,ho,ht,hn⟩:=Ny (ops:=ops) ops.size m (oN (h.mle));exact J i o ho ht hn (z i hi)
 subst U;refine⟨h.ext,⟨h.tsz,fun t=>?_⟩,h.wr,h.fr,h.dfr⟩;by_cases I:∃(k:Nat)(ok:Oper),ops[k]?=some ok/\ok.dst=some t
 .obtain⟨k,ok,u,O⟩:=I;rw[MY W ops.size k ok t (T8 u) lR u O];exact h.t1 k ok t u (z k (T8 u)) O fun tk=>jS u tk (T8 u)
 .rw[zn W ops.size t lR (fun k ok _ u O=>I ⟨k,ok,u,O⟩),X];exact h.t0 t fun k ok u _ O=>I ⟨k,ok,u,O⟩
def nu{α:Type}{p q:α->Bool}:∀{l:List α},(∀x∈l,p x=true->q x=true)->(∃x∈l,q x=true/\p x=false)->l.countP p<l.countP q
 |[],_,h=>by obtain⟨x,U,_⟩:=h;simp at U
 |a::l,h,u=>by
  have J:∀l:List α,(∀x∈l,p x=true->q x=true)->l.countP p<=l.countP q:=fun l h=>List.countP_mono_left fun x u I=>h x u I;rw[List.countP_cons,List.countP_cons];have U:=J l fun x u=>h x (abe _ u);obtain⟨x,z,W,I⟩:=u;rcases aam.1 z with rfl|z
  .rw[W,I];simp;omega
  .have X:=nu (l:=l) (fun x u=>h x (abe _ u)) ⟨x,z,W,I⟩;have h3:(if p a=true then 1 else 0)<=(if q a=true then 1 else 0):=by
    cases O:p a with
    |false=>simp
    |true=>rw[h a sM O];simp
   omega
def qD(ops:Array Oper)(listed:Array Bool):Nat:=(List.range ops.size).countP fun i=> !listed.getD i false
def NZ(hR:Rig P C ops E V K nt)(h0:E 0=e0)(b0:φ0.length=H0.bs.length){Q:Exit->Act->World->Prop}
  (hQ:∀φ a w,Ext φ0 φ->ER φ nt (E ops.size) a->WR base w0 φ (K (nT ops ops.size)).bs w->Fr φ0 H0.bs (K (nT ops ops.size)).low ws w->a.defers=ds->Q .normal a w):
  ∀(I:Nat)(u:Array Bool)(a:Act)(w:World),u.size=ops.size->qD ops u<=I->(∃m φ L,St ops base w0 V K e0 φ0 H0 ws nt ds m φ L (fun i=>u.getD i false=true) a w)->wpAny P .any ops Q I u a w:=by
 have hM:=hR.mix;have b1:∀(u:Array Bool)(i:Nat)(o:Oper),u.size=ops.size->ops[i]?=some o->u.getD i false=false->(∀d∈X6 o,u.getD d false=true)->i∈Region.ready .any ops u:=by
  intro u i o W J hf hd;refine mem_ready.2 ⟨?_,o,J,fun e he hb=>hd e.on ?_⟩
  .have:i<u.size:=by rw[W];exact T8 J
   simp only[sW,aaj this,aa6]at hf ⊢;exact hf
  .unfold X6;exact aau.2 ⟨e,abz.2 ⟨by simpa using he,hb⟩,rfl⟩
 have b2:∀(u:Array Bool),u.size=ops.size->Region.ready .any ops u=[]->∀i,i<ops.size->u.getD i false=true:=by
  intro u W hr i;induction i using Nat.strongRecOn with
  |ind i ih=>
   intro hi;apply aaN;intro hn;have J:ops[i]?=some ops[i]:=aaj hi;have:=b1 u i _ W J (by simpa using hn) fun d hd=>by
    have a5:=hM.back i _ J d hd;exact ih d a5 oM
   rw[hr]at this;cases this
 intro I;induction I with
 |zero=>
  intro u a w W a8 ⟨m,φ,L,h⟩;obtain⟨m',φ',h',z⟩:=h.norm hM (nT ops ops.size-m) m φ (oN (h.mle));have X:∀i,i<ops.size->u.getD i false=true:=by
   intro i hi;have U:qD ops u=0:=oM;unfold qD at U;rw[adw]at U
   simpa using U i (aaz.2 hi)
  obtain⟨q1,q2,q3,q4,q5⟩:=h'.done hR h0 z X;refine⟨?_,hQ φ' a w q1 q2 q3 q4 q5⟩;apply List.eq_nil_iff_forall_not_mem.2;intro i hi;obtain⟨U,o,J,_⟩:=mem_ready.1 hi;have:=X i (T8 J);have O:i<u.size:=by rw[W];exact T8 J
  simp only[sW,aaj O,aa6]at U this;rw[U]at this;cases this
 |succ I ih=>
  intro u a w W a8 ⟨m,φ,L,h⟩;obtain⟨m',φ',h',z⟩:=h.norm hM (nT ops ops.size-m) m φ (oN (h.mle));refine⟨fun hr=>?_,fun i hi=>?_⟩
  .obtain⟨q1,q2,q3,q4,q5⟩:=h'.done hR h0 z (b2 u W hr);exact hQ φ' a w q1 q2 q3 q4 q5
  .obtain⟨U,o,J,hd⟩:=mem_ready.1 hi;have O:i<u.size:=by rw[W];exact T8 J
   have a3:u.getD i false=false:=by
    simp only[sW,aaj O,aa6]at U ⊢;exact U
   have a2:∀d∈X6 o,u.getD d false=true:=fun d a4=>by
    unfold X6 at a4;obtain⟨e,he,rfl⟩:=aau.1 a4;obtain⟨a6,a7⟩:=abz.1 he;exact hd e (by simpa using a6) a7
   have a1:∀x,(u.setIfInBounds i true).getD x false=true↔(u.getD x false=true\/x=i):=fun x=>by
    by_cases hx:x=i
    .subst hx;simp [O]
    .rw[getD_set_ne false (fun q=>hx q.symm)];simp [hx]
   refine wpOp_mono (fun a' w' a9=>ih _ a' w' (by simp [W]) ?_ ?_) (h'.step hR h0 b0 z J (by rw[a3];exact acz) a2)
   .have:qD ops (u.setIfInBounds i true)<qD ops u:=by
     unfold qD;refine nu (fun x _ hx=>?_) ⟨i,aaz.2 (T8 J),by simp [a3],by simp [O]⟩;simp only[abo]at hx ⊢;cases hq:u.getD x false with
     |false=>rfl
     |true=>rw[(a1 x).2 (.inl hq)]at hx;cases hx
    omega
   .obtain⟨m2,φ2,L2,h2⟩:=a9;have:(fun x=>u.getD x false=true\/x=i)=fun x=>(u.setIfInBounds i true).getD x false=true:=by
     funext x;exact propext (a1 x).symm
    rw[this]at h2;exact⟨m2,φ2,L2,h2⟩
end
def CN{C:B9}(hC:au P C){ops:Array Oper}(U:io nt ops=true)(a3:nO ops (F5 ops.toList [])=true){Q:Exit->Act->World->Prop}{e e':Env}
  (h:M0 P C ops 0 [] [] (lI ops) e H=some (e',H')) (hE:ER φ nt e a) (hW:WR base w0 φ H.bs w) (hp:jJ base w0 φ H w nt a.defers e' H' (Q .normal)):wpAny P .any ops Q ops.size (Array.replicate ops.size false) a {w with drawn:=w.drawn+1}:=by
 have hM:=VT a3;have J:Cls base w0 φ H.bs w {w with drawn:=w.drawn+1}:=⟨hW.same_heap rfl rfl rfl rfl,fun _ _ _ _ _ _=>rfl⟩
 obtain⟨E,V,K,hT,W,a1,X,a2⟩:=EV hM ops.size 0 0 [] [] (fun _=>e) (fun _=>undef) (fun _=>H) oM rfl
  ⟨fun i o O=>oM,fun i o O=>oM,fun i o O=>oM,fun i o O=>oM,fun i o O=>oM,fun i o O=>oM⟩ (fun j hj=>by rw[CO]at hj;omega) (fun x o hx=>oM) (by simpa using h)
 have hR:Rig P C ops E V K nt:=⟨hM,hT,hC,U⟩
 refine NZ (base:=base) (w0:=w0) (φ0:=φ) (H0:=H) (ws:=w) (ds:=a.defers) (e0:=e) hR W hW.len.symm.symm (fun φ' a' w' h1 h2 h3 h4 h5=>?_) ops.size _ a _ sM ?_ ⟨0,φ,fun _=>⟨0,0,0,0⟩,?_⟩
 .rw[X]at h2;rw[a2]at h3 h4;exact hp φ' a' w' h1 h2 h3 h4 h5
 .unfold qD;refine abw aee sM
 .have z:∀i,¬((Array.replicate ops.size false).getD i false=true):=fun i=>by
   simp only[sW,abq];split<;>simp
  have u:K 0=H:=a1;refine⟨fun i o _ I=>absurd I (z i),aaJ _,fun i o _ _ a4=>oM,fun i o _ _ _ I=>absurd I (z i),Ext.refl φ,by rw[u];exact Le.refl _,by rw[u];exact J.wr,by rw[u];exact fun b B l _ hB hd hl=>J.same b B l hB hd hl,hE.size,rfl,fun t _=>hE.val t,fun i o d _ I=>absurd I (z i),fun i o d _ I=>absurd I (z i),fun i j oi oj _ _ I=>absurd I (z i)⟩
def EU{C:B9}(U:P.follows .mixedOrders=true)(I:au P C){ops:Array Oper}(u:io nt ops=true)(z:nO ops (F5 ops.toList [])=true){Q:Exit->Act->World->Prop}{e e':Env}(id:Nat)
  (h:M0 P C ops 0 [] [] (lI ops) e H=some (e',H')) (J:ER φ nt e a) (O:WR base w0 φ H.bs w) (W:jJ base w0 φ H w nt a.defers e' H' (Q .normal)):(Code.region id ops true).wp P Q a w:=
 aem U (CN I u z h J O W)
end
end Go.Proofs.YtbekeboballbgaaGreatDoor.Ve
