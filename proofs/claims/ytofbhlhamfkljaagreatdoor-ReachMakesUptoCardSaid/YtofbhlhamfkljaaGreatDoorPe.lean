/- A part of the claim: the evaluator and the contracts. Conditions: none here. -/
import Derived.Test.YtofbhlhamfkljaaGreatDoorPd
import Derived.Test.YtofbhlhamfkljaaGreatDoorProg
import Derived.KernelRfl
import Derived.OrdersIn
import Derived.CallsIn
import Derived.RegionIn
import Derived.RangeFuncNested
import Derived.RangeFuncBound
import Derived.RangeFuncCalls
import Derived.RangeFuncLeaves
import Derived.Shelf.Abstract
import Derived.Shelf.RegionOpen
import Derived.WalkKit
import Derived.OwnWalkIn
import Derived.TacticsInMore
import Derived.LoopNIn
import Derived.LoopIn
set_option linter.unusedVariables false
set_option linter.unusedSimpArgs false
set_option maxHeartbeats 0
set_option maxRecDepth 1000000
namespace Go.Proofs.YtofbhlhamfkljaaGreatDoor.Ve
open Go Go.RowKit
open Go.Proofs.Tryz (prog)
theorem lV{α:Type}{P:List α->Prop}(u:P [])(hs:∀l x,P l->P (l++[x])) (l:List α):P l:=by
 have:∀l:List α,P l.reverse:=by
  intro l;induction l with
  |nil=>exact u
  |cons x l y=>rw[List.reverse_cons];exact hs _ _ y
 have h:=this l.reverse
 rwa [List.reverse_reverse]at h
def V9(l:List (ByteArray×ByteArray))(x:ByteArray×ByteArray):List (ByteArray×ByteArray):=if P0 l x then l else l++[x]
def bu(l:List ByteArray)(x:ByteArray):List ByteArray:=if V0 l x then l else l++[x]
def F6(s:SpD)(n:ByteArray×ByteArray):SpD:=if P0 s.attrs n then s else{s with attrs:=s.attrs++[n],vals:=s.vals++[[]]}
def ixN(l:List (ByteArray×ByteArray))(n:ByteArray×ByteArray):Nat:=(ixG (fun y=>Q3 n y) l 0).toNat
def I9(s:SpD)(q:Q):SpD:=
 if q.op=4 then{s with names:=V9 s.names (qNm q)}
 else if q.op=5 then F6 s (qNm q)
 else if q.op=6 then{F6 s (qNm q)with vals:=(F6 s (qNm q)).vals.set (ixN (F6 s (qNm q)).attrs (qNm q)) (bu ((F6 s (qNm q)).vals.getD (ixN (F6 s (qNm q)).attrs (qNm q)) []) q.vl)}
 else if q.op=7 then{s with texts:=bu s.texts q.vl} else s
def spL(l:List Q):SpD:=⟨S9 4 4 l,S9 5 6 l,(S9 5 6 l).map fun n=>S7 6 n l,S7 7 (eB,eB) l⟩
theorem X2(a b:Int)(l:List Q)(x:Q):S9 a b (l++[x])=if bI a b x then V9 (S9 a b l) (qNm x) else S9 a b l:=by
 unfold S9 py;rw[List.foldl_append,List.foldl_cons,List.foldl_nil];unfold V9 P0;cases bI a b x with
 |false=>rfl
 |true=>
  simp only[Bool.true_and,if_true];generalize List.foldl _ _ l=acc;cases acc.any fun y=>Q3 y (qNm x)<;>rfl
theorem ak5(a:Int)(n:ByteArray×ByteArray)(l:List Q)(x:Q):S7 a n (l++[x])=if dv a n x then bu (S7 a n l) x.vl else S7 a n l:=by
 unfold S7 py;rw[List.foldl_append,List.foldl_cons,List.foldl_nil];unfold bu V0;cases dv a n x with
 |false=>rfl
 |true=>
  simp only[Bool.true_and,if_true];generalize List.foldl _ _ l=acc;cases acc.any fun y=>ci y x.vl<;>rfl
theorem ue(a b:Int):∀l,(S9 a b l).Nodup:=by
 refine lV List.nodup_nil fun l x u=>?_;rw[X2];split
 .unfold V9;split
  .exact u
  .rename_i h;rw[List.nodup_append];refine⟨u,by simp,fun y D z E q=>?_⟩;rw[List.mem_singleton.1 E]at q;exact h (W9.2 (q▸D))
 .exact u
theorem yS(n:ByteArray×ByteArray):∀l,n∉S9 5 6 l->S7 6 n l=[]:=by
 refine lV (fun _=>rfl) fun l x I h=>?_;have u:n∈S9 5 6 l->n∈S9 5 6 (l++[x]):=fun h=>by
  rw[X2];split
  .unfold V9;split
   .exact h
   .exact List.mem_append.2 (.inl h)
  .exact h
 rw[ak5,I (fun q=>h (u q))];split
 .rename_i y
  exfalso;apply h
  simp only[dv,Bool.and_eq_true,decide_eq_true_eq]at y;have D:qNm x=n:=Prod.ext_iff.2 y.2;have z:bI 5 6 x=true:=by simp [bI,y.1]
  rw[X2,z,if_pos rfl];unfold V9;split
  .rename_i E;rw[<-D];exact W9.1 E
  .rw[D];exact List.mem_append.2 (.inr (List.mem_singleton.2 rfl))
 .rfl
theorem vB:∀(l:List (ByteArray×ByteArray))(n:ByteArray×ByteArray)(k:Nat),n∈l->∃i:Nat,ixG (fun y=>Q3 n y) l k=((k+i:Nat):Int)/\l[i]?=some n/\i<l.length
 |[],n,k,h=>by cases h
 |y::l,n,k,h=>by
  rw[ixG];by_cases e:n=y
  .rw[if_pos (zo.2 e)];exact⟨0,by simp,by rw[e];rfl,by simp⟩
  .rw[if_neg (fun q=>e (zo.1 q))];obtain⟨i,u,z,D⟩:=vB l n (k+1) (by simpa [e] using h);exact⟨i+1,by rw[u];omega,by simpa using z,by simp;omega⟩
theorem tQ(l:List (ByteArray×ByteArray))(n:ByteArray×ByteArray)(h:n∈l):l[ixN l n]?=some n/\ixN l n<l.length/\ixG (fun y=>Q3 n y) l 0=((ixN l n:Nat):Int):=by
 obtain⟨i,u,z,D⟩:=vB l n 0 h;have:ixN l n=i:=by unfold ixN;rw[u];omega
 rw[this];exact⟨z,D,by rw[u];omega⟩
theorem Fe{α β:Type}[DecidableEq α](f g:α->β)(l:List α)(n:α)(i:Nat)(u:l[i]?=some n)(O:l.Nodup)(h:∀m,m≠n->g m=f m):(l.map f).set i (g n)=l.map g:=by
 apply List.ext_getElem?;intro j;rw[List.getElem?_set];by_cases y:i=j
 .subst y;have z:i<l.length:=(gS u).1;rw[if_pos rfl,List.getElem?_map,u,if_pos (by simpa using z)];rfl
 .rw[if_neg y,List.getElem?_map,List.getElem?_map];cases S:l[j]? with
  |none=>rfl
  |some m=>
   have:m≠n:=fun q=>by
    subst q;obtain⟨I,D⟩:=gS u;obtain⟨J,E⟩:=gS S;rcases Nat.lt_trichotomy i j with h|h|h
    .exact List.pairwise_iff_getElem.1 O i j I J h (D.trans E.symm)
    .exact y h
    .exact List.pairwise_iff_getElem.1 O j i J I h (E.trans D.symm)
   simp only[Option.map_some,h m this]
theorem mT(l:List Q)(n:ByteArray×ByteArray):F6 (spL l) n={spL l with attrs:=V9 (S9 5 6 l) n,vals:=(V9 (S9 5 6 l) n).map fun n=>S7 6 n l}:=by
 unfold F6 V9;by_cases h:P0 (S9 5 6 l) n=true
 .rw[if_pos h,if_pos (show P0 (spL l).attrs n=true from h)];rfl
 .rw[if_neg h,if_neg (show¬P0 (spL l).attrs n=true from h)];have:S7 6 n l=[]:=yS n l (fun q=>h (W9.2 q));simp only[spL,List.map_append,List.map_cons,List.map_nil,this]
theorem Ch(l:List Q)(x:Q)(hx:x.op=7->qNm x=(eB,eB)):spL (l++[x])=I9 (spL l) x:=by
 have O:∀n,x.op≠6->S7 6 n (l++[x])=S7 6 n l:=fun n h=>by rw[ak5,if_neg (by simp [dv,h])]
 have S:x.op≠7->S7 7 (eB,eB) (l++[x])=S7 7 (eB,eB) l:=fun h=>by rw[ak5,if_neg (by simp [dv,h])]
 have J:x.op≠4->S9 4 4 (l++[x])=S9 4 4 l:=fun h=>by rw[X2,if_neg (by simp [bI];omega)]
 have n5:x.op≠5->x.op≠6->S9 5 6 (l++[x])=S9 5 6 l:=fun h h2=>by rw[X2,if_neg (by simp [bI];omega)]
 unfold I9;by_cases y:x.op=4
 .have z:bI 4 4 x=true:=by simp [bI,y]
  rw[if_pos y];simp only[spL,O _ oM,S oM,n5 oM oM,X2 4 4,z,if_true]
 rw[if_neg y];by_cases D:x.op=5
 .have z:bI 5 6 x=true:=by simp [bI,D]
  rw[if_pos D,mT];simp only[spL,O _ oM,S oM,J y,X2 5 6,z,if_true]
 rw[if_neg D];by_cases u:x.op=6
 .have z:bI 5 6 x=true:=by simp [bI,u]
  rw[if_pos u,mT];obtain⟨A,U⟩:=eY (V9 (S9 5 6 l) (qNm x));have I:S9 5 6 (l++[x])=A:=by rw[U,X2,z];rfl
  have W:A.Nodup:=by rw[<-I];exact ue 5 6 _
  have hm:qNm x∈A:=by
   rw[U];unfold V9;split
   .rename_i h;exact W9.1 h
   .exact List.mem_append.2 (.inr (List.mem_singleton.2 rfl))
  obtain⟨q1,q2,_⟩:=tQ A (qNm x) hm;rw[<-U];simp only;have hg:(A.map fun n=>S7 6 n l).getD (ixN A (qNm x)) []=S7 6 (qNm x) l:=by
   rw[List.getD_eq_getElem?_getD,List.getElem?_map,q1];rfl
  have X:bu (S7 6 (qNm x) l) x.vl=(fun n=>S7 6 n (l++[x])) (qNm x):=by
   simp only;rw[ak5,if_pos (by simp [dv,u])]
  rw[hg,X,Fe (fun n=>S7 6 n l) (fun n=>S7 6 n (l++[x])) A (qNm x) _ q1 W (fun m hm=>by
   rw[ak5,if_neg];simp only[dv,Bool.and_eq_true,decide_eq_true_eq];exact fun q=>hm (Prod.ext_iff.2 q.2).symm)]
  simp only[spL,S oM,J y,I]
 rw[if_neg u];by_cases E:x.op=7
 .rw[if_pos E];have z:dv 7 (eB,eB) x=true:=by rw[dv,hx E];simp [E]
  simp only[spL,O _ u,J y,n5 D u,ak5 7,z,if_true]
 .rw[if_neg E];simp only[spL,O _ u,S E,J y,n5 D u]
theorem Cg(l:List Q)(u:∀x∈l,x.op=7->qNm x=(eB,eB)):l.foldl I9 ⟨[],[],[],[]⟩=spL l:=by
 have:∀l:List Q,(∀x∈l,x.op=7->qNm x=(eB,eB))->l.foldl I9 ⟨[],[],[],[]⟩=spL l:=by
  refine lV (fun _=>rfl) fun l x D h=>?_;rw[List.foldl_append,D (fun y z=>h y (by simp [z])),List.foldl_cons,List.foldl_nil,Ch _ _ (h x sM)]
 exact this l u
theorem Mx:∀(n:Nat)(f:Bool)(q:Q),nQ q<=n->OkD f q->∀x∈fsQ f q,OkD true x:=by
 intro n;induction n with
 |zero=>intro f q I;cases q;rw[nQ]at I;omega
 |succ n J=>
  intro f q I h x D;obtain⟨p1,p2,_⟩:=h.parts;have O:nQ q=1+nL q.a+nL q.b:=by cases q;rw[nQ];rfl
  have mem:∀(l:List Q)(y:Q),y∈l->nQ y<=nL l:=by
   intro l;induction l with
   |nil=>intro y u;cases u
   |cons z l E=>
    intro y u;rw[nL];rcases List.mem_cons.1 u with rfl|u
    .omega
    .have:=E y u;omega
  rw[kE,List.mem_append,List.mem_append,fH,fH,List.mem_flatMap,List.mem_flatMap]at D;rcases D with D|⟨y,u,D⟩|⟨y,u,D⟩
  .cases f with
   |false=>cases D
   |true=>rw[if_pos rfl]at D;rw[List.mem_singleton.1 D];exact h
  .exact J f y (oN (mem _ _ u)) (p1 y u) x D
  .exact J (!f) y (oN (mem _ _ u)) (p2 y u) x D
theorem uK(q:Q)(h:OkD false q):(fsQ false q).foldl I9 ⟨[],[],[],[]⟩=spQ q:=by
 rw[Cg _ fun x E z=>?_];rfl;obtain⟨_,_,_,y,_⟩:=(Mx _ false q lR h x E).parts;simp only[lE,if_true,Bool.and_eq_true]at y;have:=y.1.2;simp only[iM,Bool.and_eq_true,xy,z]at this;have u:=this.1;have:(decide (x.sp=eB)&&decide (x.lc=eB))=true:=by
  cases D:(decide (x.sp=eB)&&decide (x.lc=eB))with
  |true=>rfl
  |false=>rw[D]at u;revert u;decide
 simp only[Bool.and_eq_true,decide_eq_true_eq]at this;exact Prod.ext_iff.2 this
def aJ(L:LV):Prop:=∀(i j:Nat)(a b:Value),L[i]?=some a->L[j]?=some b->i≠j->∀x,j9 a x->¬j9 b x
theorem aJ.set{L:LV}{k n:Nat}{w v:Value}(h:aJ L)(S:L[k]?=some w)(U:∀b,j9 v b->j9 w b\/n<=b) (E:∀x∈L,∀b,j9 x b->b<n):aJ (L.set k v):=by
 intro i j a b y u z x J O;rw[List.getElem?_set]at y u;by_cases I:k=i
 .have D:k≠j:=fun q=>z (I.symm.trans q);rw[if_pos I]at y;rw[if_neg D]at u;split at y
  .cases y;rcases U x J with q|q
   .exact h k j w b S u D x q O
   .have:=E b (mG u) x O;omega
  .cases y
 .rw[if_neg I]at y;by_cases D:k=j
  .rw[if_pos D]at u;split at u
   .cases u;rcases U x O with q|q
    .exact h i k a w y S (fun q=>I q.symm) x J q
    .have:=E a (mG y) x J;omega
   .cases u
  .rw[if_neg D]at u;exact h i j a b y u z x J O
theorem aJ.nil{L:LV}(h:aJ L):aJ (L++[nS]):=by
 intro i j a b u I z x y E;have key:∀(i:Nat)(a:Value),(L++[nS])[i]?=some a->j9 a x->L[i]?=some a:=fun i a u y=>by
  rw[List.getElem?_append]at u;split at u
  .exact u
  .cases D:i-L.length with
   |zero=>rw[D]at u;simp at u;rw[<-u]at y;exact absurd y (A9 x)
   |succ n=>rw[D]at u;simp at u
 exact h i j a b (key i a u y) (key j b I E) z x y E
theorem GJ{cs us:LV}(h:D2 1 (R1 fun u=>[u]) cs us):cs=us:=by
 apply List.ext_getElem?;intro i;by_cases y:i<us.length
 .have z:=h.2 i us[i] (List.getElem?_eq_getElem y);have D:(cs.drop (i*1)).take 1=[us[i]]:=z;have:=congrArg (fun l=>l[0]?) D
  simpa [List.getElem?_take,List.getElem?_drop,List.getElem?_eq_getElem y] using this
 .have:=h.1;rw[List.getElem?_eq_none oM,List.getElem?_eq_none oM]
theorem BT(us:LV):D2 1 (R1 fun u=>[u]) us us:=by
 have:=BU (enc:=fun u:Value=>[u]) (sz:=1) (fun _=>rfl) us;have e:us.flatMap (fun u=>[u])=us:=sM;rw[e]at this;exact this
structure aO(H:d9)(gb:Nat)(O:Nat->Prop)(s:SpD)(w1 w2 w3 w4:Value)(us:LV):Prop where
 g:H.get gb=cE [w1,w2,w3,w4] 1
 n:t7 H (gb+1) 2 (R1 nmE) w1 s.names
 a:t7 H (gb+1) 2 (R1 nmE) w2 s.attrs
 v:t7 H (gb+1) 1 (R1 fun u=>[u]) w3 us
 len:us.length=s.vals.length
 al:s.attrs.length=s.vals.length
 u:∀(i:Nat)(u:Value)(l:List ByteArray),us[i]?=some u->s.vals[i]?=some l->t7 H (gb+1) 1 (R1 stE) u l
 t:t7 H (gb+1) 1 (R1 stE) w4 s.texts
 ap:aJ (w1::w2::w3::w4::us)
 o:∀w∈w1::w2::w3::w4::us,∀b,j9 w b->O b
 lt:∀b,O b->gb<b/\b<H.next
theorem aO.keep{H H':d9}{D:Nat}{O E:Nat->Prop}{s:SpD}{w1 w2 w3 w4:Value}{us:LV}(h:aO H D O s w1 w2 w3 w4 us)(z:∀j,j=D\/O j->H'.get j=H.get j) (S:∀b,O b->E b) (I:∀b,E b->D<b/\b<H'.next):aO H' D E s w1 w2 w3 w4 us:=
 ⟨(z D (.inl rfl)).trans h.g,h.n.same fun b y=>z b (.inr (h.o _ sM b y)),h.a.same fun b y=>z b (.inr (h.o _ sM b y)),h.v.same fun b y=>z b (.inr (h.o _ sM b y)),h.len,h.al,
  fun i u l J U=>(h.u i u l J U).same fun b y=>z b (.inr (h.o _ (by simp [mG J]) b y)),h.t.same fun b y=>z b (.inr (h.o _ sM b y)),h.ap,fun w W b y=>S b (h.o w W b y),I⟩
structure jA(gb:Nat)(O0:Nat->Prop)(s0:SpD)(H0:d9)(O:Nat->Prop)(H:d9)(s:SpD):Prop where
 sub:∀b,O b->O0 b\/H0.next<=b
 chg:(s=s0/\∀b,O b->O0 b)\/∃b,(b=gb\/O0 b)/\H.low<=b
 but:∀j,j<H0.next->j≠gb->¬O0 j->H.get j=H0.get j
 stay:i4 gb H0 H
 low:H.low<=H0.low
def dH(gb:Nat)(O0:Nat->Prop)(s0:SpD)(H0 H:d9)(s:SpD):Prop:=∃O w1 w2 w3 w4 us,aO H gb O s w1 w2 w3 w4 us/\jA gb O0 s0 H0 O H s
theorem jA.refl(u:Nat)(O:Nat->Prop)(s:SpD)(H:d9):jA u O s H O H s:=⟨fun _ h=> .inl h,.inl ⟨rfl,fun _ h=>h⟩,fun _ _ _ _=>rfl,i4.refl _ _,lR⟩
theorem jA.trans{z:Nat}{W X O2:Nat->Prop}{s0 s1 s2:SpD}{H0 y u H2:d9}(h:jA z W s0 H0 X y s1)(D:i4 y.next y u)(hl:u.low<=y.low)(I:z<=y.next)(k:jA z X s1 u O2 H2 s2):jA z W s0 H0 O2 H2 s2:=by
 have n1:=h.stay.next;have n2:=D.next;have l2:=k.low;refine⟨fun b E=>?_,?_,fun j hj h1 h2=>?_,(h.stay.trans (D.weaken I)).trans k.stay,by have:=h.low;omega⟩
 .rcases k.sub b E with q|q
  .exact h.sub b q
  .exact .inr oM
 .rcases h.chg with⟨J,O⟩|⟨b,J,O⟩
  .rcases k.chg with⟨S,U⟩|⟨b,S,U⟩
   .exact .inl ⟨S.trans J,fun b E=>O b (U b E)⟩
   .exact .inr ⟨b,S.imp id (O b),U⟩
  .exact .inr ⟨b,J,oM⟩
 .rw[k.but j oM h1 (fun q=>by rcases h.sub j q with r|r;exact h2 r;omega),D.get j oM,h.but j hj h1 h2]
theorem jP{D:Nat}{O:Nat->Prop}{s W:SpD}{H z H':d9}{w1 w2 w3 w4 v:Value}{us:LV}(y:i4 H.next H z)(J:H.next<=z.low)(E:aO H D O s w1 w2 w3 w4 us)(hQ:dH D O s z H' W):
  Ret (some (D4 v H H')) H fun v1 H2=>v1=v/\dH D O s H H2 W:=by
 have n1:=y.next;have a1:=u6 E.g;obtain⟨X,x1,x2,x3,x4,S,R,T⟩:=hQ;refine D7 (fun _ hl=>⟨rfl,?_⟩) ⟨rfl,?_⟩
 .rcases T.chg with⟨u,U⟩|⟨b,u,U⟩
  .rw[u];exact⟨O,w1,w2,w3,w4,us,E,jA.refl _ _ _ _⟩
  .have:b<H.next:=by
    rcases u with u|u
    .omega
    .exact(E.lt b u).2
   omega
 .refine⟨X,x1,x2,x3,x4,S,R.keep (fun _ _=>rfl) (fun _ h=>h) R.lt,fun b hb=>?_,?_,fun j I h1 h2=>?_,⟨?_,fun k hk q=>?_,fun j I=>?_⟩,Nat.min_le_left _ _⟩
  .rcases T.sub b hb with q|q
   .exact .inl q
   .exact .inr oM
  .rcases T.chg with q|⟨b,u,U⟩
   .exact .inl q
   .exact .inr ⟨b,u,by show min H.low H'.low<=b;omega⟩
  .show H'.get j=H.get j;rw[T.but j oM h1 h2,y.get j I]
  .show H.next<=H'.next;have:=T.stay.next;omega
  .have:=T.stay.lowAll k hk oM;show k<=min H.low H'.low;omega
  .show H'.get j=H.get j;rw[T.stay.get j I,y.get j oM]
theorem bV{α:Type}{R:LV->α->Prop}{H H':d9}{lo sz:Nat}{v v':Value}{l:List α}(z:t7 H' lo sz R v' l)(h:X7 lo v H v' H'):Ret (some (D4 v' H H')) H fun D u=>t7 u lo sz R D l/\X7 lo v H D u/\u.low<=H.low:=by
 refine D7 (fun y J=>⟨z.na y _ _,⟨i4.refl _ _,fun _ _ _=>rfl,fun b E=>?_⟩,lR⟩) ⟨z.low _,⟨⟨h.stay.next,fun k I q=>?_,h.stay.get⟩,h.but,h.new⟩,Nat.min_le_left _ _⟩
 .obtain⟨n,c,e⟩:=E;rw[e]at y;cases y
 .have:=h.stay.lowAll k I q;show k<=min H.low H'.low;omega
theorem GT(H:d9)(lo:Nat)(v:Value)(l:List (ByteArray×ByteArray))(x:ByteArray×ByteArray)(U:lo<=H.next)(hO:t7 H lo 2 (R1 nmE) v l)(hl:l.length<=1000000):
  Ret (CL prog O8 126 [v,.agg (nmE x).toArray] H) H fun v' H'=>t7 H' lo 2 (R1 nmE) v' (V9 l x)/\X7 lo v H v' H'/\H'.low<=H.low:=by
 obtain⟨J,u⟩:=eY (d9.push ⟨H.bs,H.next⟩ (bC (nmE x) 1):d9);have O:i4 H.next H J:=by rw[u];first|exact i4.first H _|exact i4.start H
 have a4:=O.next;have a3:H.next<=J.low:=by rw[u];exact lR
 have D:=hO.keep O;have S:=MK J J.next v l x lR D.sl oM;have W:ldC (some true) (some 2) 0 (nmE x)=some (.agg (nmE x).toArray):=rfl;have a2:(l.any fun y=>Q3 x y)=P0 l x:=by unfold P0;congr 1;funext y;first|exact decide_eq_decide.2 ⟨Eq.symm,Eq.symm⟩|(rw[Bool.eq_iff_iff,zo,zo];exact eq_comm)
 rw[a2]at S;rw[j8 WN rfl _ sM];rcases b:P0 l x with _|_
 .rw[b]at S;have E:V9 l x=l++[x]:=by rw[V9,b];rfl
  obtain⟨v',h',H4,ha,a1,X,z⟩:=D.push1F (P:=prog) (t:=95) (cs:=nmE x) (a:=x) (by exact pJ.2.2.2.2.2.2) cr.1 cr.2.1 cr.2.2.1 oM oM rfl rfl oM oM;have I:J.get H.next=cE (nmE x) 1:=by rw[u];exact i7
  refine J6 u.symm I S W ha a1 ?_;rw[E];exact bV X ⟨(O.weaken U).trans z.stay,fun j hj h=>by rw[z.but j oM h,O.get j hj],fun b hb=>(z.new b hb).imp id fun q=>oM⟩
 .rw[b]at S;have E:V9 l x=l:=by rw[V9,b];rfl
  have I:J.get H.next=cE (nmE x) 1:=by rw[u];exact i7
  refine J4 u.symm I S W ?_;rw[E];exact bV D (X7.of v O U)
theorem yZ(H:d9)(lo:Nat)(v:Value)(l:List (ByteArray))(x:ByteArray)(O:lo<=H.next)(hO:t7 H lo 1 (R1 stE) v l)(hl:l.length<=1000000):
  Ret (CL prog O8 128 [v,.string x] H) H fun v' H'=>t7 H' lo 1 (R1 stE) v' (bu l x)/\X7 lo v H v' H'/\H'.low<=H.low:=by
 obtain⟨U,u⟩:=eY (⟨H.bs,H.next⟩:d9);have I:i4 H.next H U:=by rw[u];first|exact i4.first H _|exact i4.start H
 have S:=I.next;have a2:H.next<=U.low:=by rw[u];exact lR
 have D:=hO.keep I;have J:=AV U U.next v l x lR D.sl oM;have a3:ldC (some true) (some 1) 0 (stE x)=some (.agg (stE x).toArray):=rfl;have a1:(l.any fun y=>ci x y)=V0 l x:=by unfold V0;congr 1;funext y;first|exact decide_eq_decide.2 ⟨Eq.symm,Eq.symm⟩|(rw[Bool.eq_iff_iff,zo,zo];exact eq_comm)
 rw[a1]at J;rw[j8 WP rfl _ sM];rcases b:V0 l x with _|_
 .rw[b]at J;have E:bu l x=l++[x]:=by rw[bu,b];rfl
  obtain⟨v',h',H4,ha,X,W,z⟩:=D.push1F (P:=prog) (t:=97) (cs:=stE x) (a:=x) (by exact aH.2.2.2.2.2.2) ty9.1 ty9.2.1 ty9.2.2.1 oM oM rfl rfl oM oM;have _:=S;refine J4 u.symm J ha X ?_;rw[E];exact bV W ⟨(I.weaken O).trans z.stay,fun j hj h=>by rw[z.but j oM h,I.get j hj],fun b hb=>(z.new b hb).imp id fun q=>oM⟩
 .rw[b]at J;have E:bu l x=l:=by rw[bu,b];rfl
  have _:=S;refine J2 u.symm J ?_;rw[E];exact bV D (X7.of v I O)
theorem kG(l:List (ByteArray×ByteArray))(n:ByteArray×ByteArray):(l.any fun y=>Q3 n y)=P0 l n:=by
 unfold P0;congr 1;funext y;rw[Bool.eq_iff_iff,zo,zo];exact eq_comm
theorem Ef(l:List (ByteArray×ByteArray))(n:ByteArray×ByteArray)(h:P0 l n=false):ixN (l++[n]) n=l.length:=by
 have:∀(l:List (ByteArray×ByteArray))(k:Nat),(l.any fun y=>Q3 n y)=false->ixG (fun y=>Q3 n y) (l++[n]) k=((k+l.length:Nat):Int):=by
  intro l;induction l with
  |nil=>intro k _;rw[List.nil_append,ixG,if_pos (zo.2 rfl)];simp
  |cons y l z=>
   intro k u;rw[List.any_cons,Bool.or_eq_false_iff]at u;rw[List.cons_append,ixG,if_neg (by rw[u.1];decide),z (k+1) u.2,List.length_cons];congr 1;omega
 unfold ixN;rw[this l 0 (by rw[kG];exact h)];omega
theorem aO.inl{H:d9}{u:Nat}{O:Nat->Prop}{s:SpD}{w1 w2 w3 w4:Value}{us:LV}(h:aO H u O s w1 w2 w3 w4 us){w:Value}(z:w∈w1::w2::w3::w4::us){b:Nat}(y:j9 w b):u<b/\b<H.next:=h.lt b (h.o w z b y)
theorem vj(H:d9)(E:Nat)(O:Nat->Prop)(s:SpD)(w1 w2 w3 w4:Value)(us:LV)(n:ByteArray×ByteArray)(hR:aO H E O s w1 w2 w3 w4 us)(hl:s.attrs.length<=100000):
  Ret (CL prog O8 127 [pT E,.agg (nmE n).toArray] H) H fun v I=>v=iV (ixN (F6 s n).attrs n)/\dH E O s H I (F6 s n):=by
 obtain⟨I,X⟩:=eY (d9.push ⟨H.bs,H.next⟩ (bC (nmE n) 1):d9);have hS:i4 H.next H I:=by rw[X];exact i4.first H _
 have e5:I.next=H.next+1:=by rw[X,i5];rfl
 have a5:H.next<=I.low:=by rw[X];exact lR
 have d4:=u6 hR.g;have g1:I.get H.next=cE (nmE n) 1:=by rw[X];exact i7
 have z:aO I E O s w1 w2 w3 w4 us:=hR.keep (fun j hj=>hS.get j (by rcases hj with rfl|hj;exact d4;exact(hR.lt j hj).2)) (fun _ h=>h) (fun b D=>by have:=hR.lt b D;omega);have a7:=z.g;have c7:ldC (some true) (some 2) 0 (nmE n)=some (.agg (nmE n).toArray):=rfl;have hh:=vy I I.next w2 s.attrs n lR z.a.sl oM;have r0:[w1,w2,w3,w4][1]?=some w2:=rfl;rw[j8 WO rfl _ sM];rcases b:P0 s.attrs n with _|_
 .have b2:ixG (fun y=>Q3 n y) s.attrs 0= -1:=by
   rcases eW (fun y=>Q3 n y) s.attrs 0 with q|q
   .exact q.2
   .have:=q.1;rw[kG,b]at this;cases this
  rw[b2]at hh;have b1:F6 s n={s with attrs:=s.attrs++[n],vals:=s.vals++[[]]}:=by rw[F6,b];rfl
  rw[b1];simp only;rw[Ef _ _ b];obtain⟨W,h2,K2,b9,a9,a4,J⟩:=z.a.push1F (P:=prog) (t:=95) (cs:=nmE n) (a:=n) (by exact pJ.2.2.2.2.2.2) cr.1 cr.2.1 cr.2.2.1 oM oM rfl rfl oM oM;obtain⟨K1,b7,-,-,s1⟩:=pushE I (bC (nmE n) 2);rw[<-b7]at b9 a9;have c8:∀w∈w1::w2::w3::w4::us,∀b,j9 w b->b≠E:=fun w hw b D=>oN (z.inl hw D);have n2:=J.next;have g2:K2.get E=cE [w1,w2,w3,w4] 1:=(J.but E oM (fun q=>c8 w2 sM E q rfl)).trans a7;have d2:K1.get E=cE [w1,w2,w3,w4] 1:=(s1.get E oM).trans a7;have b5:∀b,j9 w3 b->¬j9 w2 b:=fun b h3 h2=>z.ap 1 2 w2 w3 rfl rfl oM b h2 h3;have d3:t7 K2 (E+1) 1 (R1 fun u=>[u]) w3 us:=z.v.same fun b D=>J.but b (z.inl sM D).2 (b5 b D);obtain⟨v3,h3,K4,c0,b0,a8,S⟩:=d3.push1F (P:=prog) (t:=96) (cs:=[nS]) (a:=nS) (by exact NR.2.2.2.2.2.2) aH.1 aH.2.1 aH.2.2.1 oM oM rfl rfl (by have:=z.len;have:=z.al;omega) oM;obtain⟨K3,b8,-,-,s3⟩:=pushE K2 (bC [nS] 1);rw[<-b8]at c0 b0;have n4:=S.next;have g3:K3.get E=cE [w1,w2,w3,w4] 1:=(s3.get E oM).trans g2;have g4:K4.get E=cE [w1,w2,w3,w4] 1:=(S.but E oM (fun q=>c8 w3 sM E q rfl)).trans g2;obtain⟨a2,c2,e2⟩:=a4.slice;obtain⟨a3,c3,e3⟩:=a8.slice;have d0:W.cells.toList=[W]:=by rw[e2];rfl
  have e1:Value.oneCell' W=true:=by rw[e2];rfl
  have d1:v3.cells.toList=[v3]:=by rw[e3];rfl
  have e4:Value.oneCell' v3=true:=by rw[e3];rfl
  obtain⟨K5,a1⟩:=eY (K4.put E (bC [w1,W,w3,w4] 1));have g5:K5.get E=cE [w1,W,w3,w4] 1:=by rw[a1];exact i8 oM
  obtain⟨K6,U⟩:=eY (K5.put E (bC [w1,W,v3,w4] 1));have n6:K6.next=K4.next:=by rw[U,j5,a1,j5]
  have g6:K6.get E=cE [w1,W,v3,w4] 1:=by rw[U];exact i8 (by rw[a1,j5];omega)
  have c4:bsA prog (some 48) I 1 [(0,.agg (nmE n).toArray)]=some (sL I.next 1 1,K1):=by
   rw[b7];simp only[C7,cr,C8];rfl
  have c5:bsA prog (some 97) K2 1 [(0,nS)]=some (sL K2.next 1 1,K3):=by
   rw[b8];simp only[C7,aH,C8];rfl
  have b3:∀Hx:d9,D3 prog .len [95] [W] Hx=some (.int .i64 ((s.attrs.length:Int)+1),none):=fun Hx=>by
   rw[e2,List.length_append];refine J1 pJ ?_;simp
  have e6:∀j,j≠E->K6.get j=K4.get j:=fun j hj=>by rw[U,i9 (fun q=>hj q.symm),a1,i9 (fun q=>hj q.symm)]
  refine J25 X.symm g1 a7 c7 hh c4 d2 b9 a9 g2 c5 g3 c0 b0 g4 d0 e1 a1.symm g5 d1 e4 U.symm g6 b3 @wrap_small ?_;have ew:(s.attrs.length:Int)+1-1=s.attrs.length:=oM;rw[ew];have b4:∀j,j<I.next->¬j9 w2 j->¬j9 w3 j->K4.get j=I.get j:=fun j hj h2 h3=>by rw[S.but j oM h3,J.but j hj h2]
  refine jP (w1:=w1) (w2:=w2) (w3:=w3) (w4:=w4) (us:=us) hS a5 hR ⟨P5 O I K6,w1,W,v3,w4,us++[nS],⟨g6,?_,?_,?_,?_,?_,?_,?_,?_,?_,?_⟩,?_,?_,?_,?_,?_⟩
  .exact z.n.same fun b D=>by
    have:=z.inl (w:=w1) sM D;rw[e6 b oM,b4 b this.2 (fun q=>z.ap 0 1 w1 w2 rfl rfl oM b D q) (fun q=>z.ap 0 2 w1 w3 rfl rfl oM b D q)]
  .exact a4.same fun b D=>by
    have d6:=a4.lt D;rw[e6 b oM,S.but b d6.2 fun q=>?_];rcases J.new b D with r|r
    .exact b5 b q r
    .have:=z.inl (w:=w3) sM q;omega
  .exact a8.same fun b D=>e6 b (oN (a8.lt D))
  .rw[List.length_append,List.length_append,z.len];rfl
  .rw[List.length_append,List.length_append,z.al];rfl
  .intro i u l hu hl;have c6:=z.len;by_cases hi:i<us.length
   .rw[List.getElem?_append_left hi]at hu;rw[List.getElem?_append_left oM]at hl;exact(z.u i u l hu hl).same fun b D=>by
     have:=z.inl (w:=u) (by simp [mG hu]) D;rw[e6 b oM,b4 b this.2 (fun q=>z.ap (i+4) 1 u w2 hu rfl oM b D q) (fun q=>z.ap (i+4) 2 u w3 hu rfl oM b D q)]
   .rw[List.getElem?_append_right oM]at hu hl;cases hm:i-us.length with
    |zero=>
     rw[hm]at hu;rw[<-c6,hm]at hl;simp at hu hl
     first|rw[<-hu,<-hl]|rw[<-hu,hl]
     exact t7.nil
    |succ m=>rw[hm]at hu;simp at hu
  .exact z.t.same fun b D=>by
    have:=z.inl (w:=w4) sM D;rw[e6 b oM,b4 b this.2 (fun q=>z.ap 3 1 w4 w2 rfl rfl oM b D q) (fun q=>z.ap 3 2 w4 w3 rfl rfl oM b D q)]
  .have p1:aJ (w1::W::w3::w4::us):=z.ap.set (k:=1) (v:=W) (n:=I.next) rfl J.new (fun x hx b D=>(z.inl hx D).2);have p2:aJ (w1::W::v3::w4::us):=p1.set (k:=2) (v:=v3) (n:=K2.next) rfl S.new (fun x hx b D=>by
    rcases List.mem_cons.1 hx with rfl|hx
    .have:=z.inl (w:=x) sM D;omega
    rcases List.mem_cons.1 hx with rfl|hx
    .exact(a4.lt D).2
    .have:=z.inl (w:=x) (List.mem_cons_of_mem _ (List.mem_cons_of_mem _ hx)) D;omega)
   exact p2.nil
  .intro w hw b D;have a6:∀w∈w1::w2::w3::w4::us,j9 w b->P5 O I K6 b:=fun w hw D=> .inl (z.o w hw b D);have d8:w=w1\/w=W\/w=v3\/w=w4\/w∈us\/w=nS:=by
    have:w∈w1::W::v3::w4::(us++[nS]):=hw;simp only[List.mem_cons,List.mem_append,List.mem_singleton,List.not_mem_nil,or_false]at this;exact this
   rcases d8 with h|h|h|h|h|h
   .exact a6 w1 sM (h▸D)
   .rw[h]at D;rcases J.new b D with r|r
    .exact a6 w2 sM r
    .exact .inr ⟨r,by have:=a4.lt D;omega⟩
   .rw[h]at D;rcases S.new b D with r|r
    .exact a6 w3 sM r
    .exact .inr ⟨oM,by have:=a8.lt D;omega⟩
   .exact a6 w4 sM (h▸D)
   .exact a6 w (by simp [h]) D
   .rw[h]at D;exact absurd D (A9 b)
  .intro b D;rcases D with D|D
   .have:=z.lt b D;omega
   .omega
  .intro b D;exact D.imp id fun h=>h.1
  .exact .inr ⟨E,.inl rfl,by rw[U,A4];omega⟩
  .intro j hj h1 h2;rw[e6 j h1,b4 j hj (fun q=>h2 (z.o w2 sM j q)) (fun q=>h2 (z.o w3 sM j q))]
  .rw[U,a1];exact(((J.stay.weaken oM).trans (S.stay.weaken oM)).trans (i4.put lR)).trans (i4.put lR)
  .have:K6.low<=E:=by rw[U,A4];omega
   omega
 .have d5:=W9.1 b;obtain⟨_,_,b2⟩:=tQ s.attrs n d5;rw[b2]at hh;have b1:F6 s n=s:=by rw[F6,b];rfl
  have c9:decide ((0:Int)<=(ixN s.attrs n:Nat))=true:=decide_eq_true oM;rw[b1];refine J6 X.symm g1 a7 c7 hh c9 ?_;have b6:=jP (v:=iV (ixN s.attrs n)) hS a5 hR ⟨O,w1,w2,w3,w4,us,z,jA.refl _ _ _ _⟩;rw[kA _ _ _ _ a5]at b6;exact b6
theorem xw{H H':d9}{D:Nat}{O:Nat->Prop}{s:SpD}{w1 w2 w3 w4 v':Value}{us:LV}{l':List (ByteArray×ByteArray)}(z:aO H D O s w1 w2 w3 w4 us)(X:t7 H' (D+1) 2 (R1 nmE) v' l')(J:X7 (D+1) w1 H v' H')(hl:H'.low<=H.low):
  dH D O s H (H'.put D (bC [v',w2,w3,w4] 1)) {s with names:=l'}:=by
 have hn:=J.next;have a1:=u6 z.g;obtain⟨K,E⟩:=eY (H'.put D (bC [v',w2,w3,w4] 1));have nK:K.next=H'.next:=by rw[E,j5]
 have gK:K.get D=cE [v',w2,w3,w4] 1:=by rw[E];exact i8 oM
 have W:∀j,j≠D->K.get j=H'.get j:=fun j hj=>by rw[E,i9 (fun q=>hj q.symm)]
 have sm:∀(i:Nat)(w:Value),(w1::w2::w3::w4::us)[i]?=some w->i≠0->∀b,j9 w b->K.get b=H.get b:=fun i w S hi b y=>by
  have:=z.inl (mG S) y;rw[W b oM,J.but b this.2 (fun q=>z.ap i 0 w w1 S rfl hi b y q)]
 have hs:t7 K (D+1) 2 (R1 nmE) v' l':=X.same fun b y=>W b (oN (X.lt y));have U:∀(w:Value)(i:Nat){α:Type}{sz:Nat}{R:LV->α->Prop}{l:List α},(w1::w2::w3::w4::us)[i]?=some w->i≠0->t7 H (D+1) sz R w l->t7 K (D+1) sz R w l:=fun w i _ _ _ _ S hi h=>h.same (sm i w S hi);rw[<-E];refine⟨P5 O H K,v',w2,w3,w4,us,⟨gK,?_,?_,U w3 2 rfl oM z.v,z.len,z.al,fun i u l hu hl=>U u (i+4) hu oM (z.u i u l hu hl),?_,z.ap.set (k:=0) (v:=v') (n:=H.next) rfl J.new (fun x hx b y=>(z.inl hx y).2),fun w S b y=>?_,fun b y=>?_⟩,fun b y=>y.imp id fun h=>h.1,.inr ⟨D,.inl rfl,by rw[E,A4];omega⟩,fun j hj h1 h2=>by rw[W j h1,J.but j hj (fun q=>h2 (z.o w1 sM j q))],by rw[E];exact(J.stay.weaken oM).trans (i4.put lR),by rw[E,A4];omega⟩
 .first|exact hs|exact U w1 0 rfl oM z.n
 .exact U w2 1 rfl oM z.a
 .first|exact hs|exact U w4 3 rfl oM z.t
 .by_cases h:w∈w1::w2::w3::w4::us
  .exact .inl (z.o w h b y)
  .have:w=v':=by
    apply Classical.byContradiction;intro hv;have I:w∈v'::w2::w3::w4::us:=S;apply h;simp only[List.mem_cons,hv,false_or]at I ⊢
    first|exact .inr I|(rcases I with q|q|q|q;exact .inl q;exact .inr (.inl q);exact .inr (.inr (.inl q));exact .inr (.inr (.inr (.inr q))))
   rw[this]at y;rcases J.new b y with r|r
   .exact .inl (z.o w1 sM b r)
   .exact .inr ⟨r,by have:=X.lt y;omega⟩
 .rcases y with y|y
  .have:=z.lt b y;omega
  .omega
theorem xx{H H':d9}{D:Nat}{O:Nat->Prop}{s:SpD}{w1 w2 w3 w4 v':Value}{us:LV}{l':List (ByteArray)}(z:aO H D O s w1 w2 w3 w4 us)(X:t7 H' (D+1) 1 (R1 stE) v' l')(J:X7 (D+1) w4 H v' H')(hl:H'.low<=H.low):
  dH D O s H (H'.put D (bC [w1,w2,w3,v'] 1)) {s with texts:=l'}:=by
 have hn:=J.next;have a1:=u6 z.g;obtain⟨K,E⟩:=eY (H'.put D (bC [w1,w2,w3,v'] 1));have nK:K.next=H'.next:=by rw[E,j5]
 have gK:K.get D=cE [w1,w2,w3,v'] 1:=by rw[E];exact i8 oM
 have W:∀j,j≠D->K.get j=H'.get j:=fun j hj=>by rw[E,i9 (fun q=>hj q.symm)]
 have sm:∀(i:Nat)(w:Value),(w1::w2::w3::w4::us)[i]?=some w->i≠3->∀b,j9 w b->K.get b=H.get b:=fun i w S hi b y=>by
  have:=z.inl (mG S) y;rw[W b oM,J.but b this.2 (fun q=>z.ap i 3 w w4 S rfl hi b y q)]
 have hs:t7 K (D+1) 1 (R1 stE) v' l':=X.same fun b y=>W b (oN (X.lt y));have U:∀(w:Value)(i:Nat){α:Type}{sz:Nat}{R:LV->α->Prop}{l:List α},(w1::w2::w3::w4::us)[i]?=some w->i≠3->t7 H (D+1) sz R w l->t7 K (D+1) sz R w l:=fun w i _ _ _ _ S hi h=>h.same (sm i w S hi);rw[<-E];refine⟨P5 O H K,w1,w2,w3,v',us,⟨gK,?_,?_,U w3 2 rfl oM z.v,z.len,z.al,fun i u l hu hl=>U u (i+4) hu oM (z.u i u l hu hl),?_,z.ap.set (k:=3) (v:=v') (n:=H.next) rfl J.new (fun x hx b y=>(z.inl hx y).2),fun w S b y=>?_,fun b y=>?_⟩,fun b y=>y.imp id fun h=>h.1,.inr ⟨D,.inl rfl,by rw[E,A4];omega⟩,fun j hj h1 h2=>by rw[W j h1,J.but j hj (fun q=>h2 (z.o w4 sM j q))],by rw[E];exact(J.stay.weaken oM).trans (i4.put lR),by rw[E,A4];omega⟩
 .first|exact hs|exact U w1 0 rfl oM z.n
 .exact U w2 1 rfl oM z.a
 .first|exact hs|exact U w4 3 rfl oM z.t
 .by_cases h:w∈w1::w2::w3::w4::us
  .exact .inl (z.o w h b y)
  .have:w=v':=by
    apply Classical.byContradiction;intro hv;have I:w∈w1::w2::w3::v'::us:=S;apply h;simp only[List.mem_cons,hv,false_or]at I ⊢
    first|exact .inr I|(rcases I with q|q|q|q;exact .inl q;exact .inr (.inl q);exact .inr (.inr (.inl q));exact .inr (.inr (.inr (.inr q))))
   rw[this]at y;rcases J.new b y with r|r
   .exact .inl (z.o w4 sM b r)
   .exact .inr ⟨r,by have:=X.lt y;omega⟩
 .rcases y with y|y
  .have:=z.lt b y;omega
  .omega
theorem DU{H H':d9}{J:Nat}{O:Nat->Prop}{s:SpD}{w1 w2 w4 u E:Value}{us:LV}{z n c i:Nat}{l':List ByteArray}(y:aO H J O s w1 w2 (sL z n c) w4 us)(hu:us[i]?=some u)(hO:t7 H' (J+1) 1 (R1 stE) E l')(U:X7 (J+1) u H E H')(hl:H'.low<=H.low):
  dH J O s H (H'.put z (bC (us.set i E) 1)) {s with vals:=s.vals.set i l'}:=by
 have hn:=U.next;have a9:=u6 y.g;have I:j9 (sL z n c) z:=⟨_,_,rfl⟩
 have l3:=y.inl (w:=sL z n c) sM I;have a1:(w1::w2::sL z n c::w4::us)[i+4]?=some u:=hu;obtain⟨K,hK⟩:=eY (H'.put z (bC (us.set i E) 1));have nK:K.next=H'.next:=by rw[hK,j5]
 have gK:K.get z=cE (us.set i E) 1:=by rw[hK];exact i8 oM
 have eK:∀j,j≠z->K.get j=H'.get j:=fun j W=>by rw[hK,i9 (fun q=>W q.symm)]
 have sm:∀(j:Nat)(w:Value),(w1::w2::sL z n c::w4::us)[j]?=some w->j≠i+4->j≠2->∀b,j9 w b->K.get b=H.get b:=fun j w hw W a3 b D=>by
  have:=y.inl (mG hw) D;rw[eK b (fun q=>y.ap j 2 w _ hw rfl a3 b D (q▸I)),U.but b this.2 (fun q=>y.ap j (i+4) w u hw a1 W b D q)]
 have ho:∀(w:Value)(j:Nat){α:Type}{sz:Nat}{R:LV->α->Prop}{l:List α},(w1::w2::sL z n c::w4::us)[j]?=some w->j≠i+4->j≠2->t7 H (J+1) sz R w l->t7 K (J+1) sz R w l:=fun w j _ _ _ _ hw hi h2 h=>h.same (sm j w hw hi h2);have a8:∀b,j9 E b->b≠z:=fun b D q=>by
  rcases U.new b D with r|r
  .exact y.ap (i+4) 2 u _ a1 rfl oM b r (q▸I)
  .omega
 have a4:n=us.length:=by obtain⟨_,_,q⟩:=y.v.slice;cases q;rfl
 have a2:aJ (w1::w2::sL z n c::w4::us.set i E):=y.ap.set (k:=i+4) (v:=E) (n:=H.next) a1 U.new (fun x S b D=>(y.inl S D).2);have a6:t7 K (J+1) 1 (R1 fun u=>[u]) (sL z n c) (us.set i E):=⟨us.set i E,.inr ⟨z,c,by rw[a4,List.length_set],gK,oM,by simp⟩,BT _⟩
 have a5:t7 K (J+1) 1 (R1 stE) E l':=hO.same fun b D=>eK b (a8 b D);rw[<-hK];refine⟨P5 O H K,w1,w2,sL z n c,w4,us.set i E,⟨?_,ho w1 0 rfl oM oM y.n,ho w2 1 rfl oM oM y.a,a6,by rw[List.length_set,List.length_set];exact y.len,by rw[List.length_set];exact y.al,fun j x m S X=>?_,ho w4 3 rfl oM oM y.t,a2,fun w hw b D=>?_,fun b D=>?_⟩,fun b D=>D.imp id fun h=>h.1,.inr ⟨z,.inr (y.o _ sM z I),by rw[hK,A4];omega⟩,fun j W h1 h2=>by rw[eK j (fun q=>h2 (q▸y.o _ sM z I)),U.but j W (fun q=>h2 (y.o u (by simp [mG hu]) j q))],by rw[hK];exact(U.stay.weaken oM).trans (i4.put oM),by rw[hK,A4];omega⟩
 .rw[eK J oM,U.but J oM (fun q=>by have:=y.inl (w:=u) (by simp [mG hu]) q;omega)];exact y.g
 .simp only at X;rw[List.getElem?_set]at S X;by_cases W:i=j
  .rw[if_pos W]at S X;split at S
   .split at X
    .cases S;cases X;exact a5
    .cases X
   .cases S
  .rw[if_neg W]at S X;exact ho x (j+4) S oM oM (y.u j x m S X)
 .by_cases h:w∈w1::w2::sL z n c::w4::us
  .exact .inl (y.o w h b D)
  .have:w=E:=by
    apply Classical.byContradiction;intro hv;apply h;have a7:w=w1\/w=w2\/w=sL z n c\/w=w4\/w∈us.set i E:=by simpa only[List.mem_cons] using hw
    rcases a7 with q|q|q|q|q
    .simp [q]
    .simp [q]
    .simp [q]
    .simp [q]
    .rcases List.mem_or_eq_of_mem_set q with q|q
     .simp [q]
     .exact absurd q hv
   rw[this]at D;rcases U.new b D with r|r
   .exact .inl (y.o u (by simp [mG hu]) b r)
   .exact .inr ⟨r,by have:=hO.lt D;omega⟩
 .rcases D with D|D
  .have:=y.lt b D;omega
  .omega
def Sm(s:SpD)(m:Nat):Prop:=s.names.length<=m/\s.attrs.length<=m/\(∀l∈s.vals,l.length<=m)/\s.texts.length<=m
theorem vY(l:List (ByteArray×ByteArray))(x:ByteArray×ByteArray):(V9 l x).length<=l.length+1:=by unfold V9;split<;>simp
theorem mQ(l:List ByteArray)(x:ByteArray):(bu l x).length<=l.length+1:=by unfold bu;split<;>simp
theorem zr{s:SpD}{m:Nat}(h:Sm s m)(n:ByteArray×ByteArray):Sm (F6 s n) (m+1):=by
 obtain⟨z,D,y,E⟩:=h;unfold F6;split
 .exact⟨oM,oM,fun l u=>by have:=y l u;omega,oM⟩
 .refine⟨by show s.names.length<=_;omega,by simp;omega,fun l u=>?_,by show s.texts.length<=_;omega⟩;rcases List.mem_append.1 u with u|u
  .have:=y l u;omega
  .rw[List.mem_singleton.1 u];simp
theorem mS{s:SpD}{m:Nat}(h:Sm s m)(n:ByteArray×ByteArray):(∀l∈(F6 s n).vals,l.length<=m)/\(F6 s n).names.length<=m/\(F6 s n).texts.length<=m/\(F6 s n).attrs.length<=m+1:=by
 obtain⟨y,E,z,D⟩:=h;unfold F6;split
 .exact⟨z,y,D,oM⟩
 .refine⟨fun l u=>?_,y,D,by simp;omega⟩;rcases List.mem_append.1 u with u|u
  .exact z l u
  .rw[List.mem_singleton.1 u];simp
theorem rS{s:SpD}{m:Nat}(h:Sm s m)(q:Q):Sm (I9 s q) (m+1):=by
 have z:=h;obtain⟨O,S,E,U⟩:=h;have y:Sm s (m+1):=⟨oM,oM,fun l u=>by have:=E l u;omega,oM⟩
 unfold I9;split
 .exact⟨by have:=vY s.names (qNm q);show(V9 s.names (qNm q)).length<=_;omega,y.2⟩
 split
 .exact zr z _
 split
 .obtain⟨D,W,X,J⟩:=mS z (qNm q);refine⟨by show(F6 s (qNm q)).names.length<=_;omega,J,fun l u=>?_,by show(F6 s (qNm q)).texts.length<=_;omega⟩;rcases List.mem_or_eq_of_mem_set u with u|u
  .have:=D l u;omega
  .rw[u];have:=mQ ((F6 s (qNm q)).vals.getD (ixN (F6 s (qNm q)).attrs (qNm q)) []) q.vl;have:((F6 s (qNm q)).vals.getD (ixN (F6 s (qNm q)).attrs (qNm q)) []).length<=m:=by
    rw[List.getD_eq_getElem?_getD];cases I:(F6 s (qNm q)).vals[ixN (F6 s (qNm q)).attrs (qNm q)]? with
    |none=>simp
    |some l=>exact D l (mG I)
   omega
 split
 .exact⟨y.1,y.2.1,y.2.2.1,by have:=mQ s.texts q.vl;show(bu s.texts q.vl).length<=_;omega⟩
 .exact y
theorem bG(l:List Q):∀{s:SpD}{m:Nat},Sm s m->Sm (l.foldl I9 s) (m+l.length):=by
 induction l with
 |nil=>intro s m h;exact h
 |cons x l u=>intro s m h;rw[List.foldl_cons,List.length_cons,show m+(l.length+1)=m+1+l.length from oM];exact u (rS h x)
theorem ww(s:SpD)(n:ByteArray×ByteArray):n∈(F6 s n).attrs:=by
 unfold F6;split
 .rename_i h;exact W9.1 h
 .exact List.mem_append.2 (.inr (List.mem_singleton.2 rfl))
theorem aB2(H1:d9)(E p3:Nat)(O:Nat->Prop)(s:SpD)(w1 w2 w3 w4:Value)(us:LV)(q:Q)(va wa:Option Addr)(ca c5:Nat)(U:aO H1 E O s w1 w2 w3 w4 us)(hs:Sm s 100000)(hp:p3≠E)(d3:¬O p3)(W:LV)(a4:W=[iV q.op,.string q.sp,.string q.lc,.string q.vl,.slice va q.a.length ca,.slice wa q.b.length c5])(S:H1.get p3=cE W 1)
  (e:Env) (f0:e.get 0=pT E) (f3:e.get 3=pT p3) (f10:e.get 10=iV q.op):
  u9 (LE prog O8 to e H1) (fun o e H2=>o= .normal/\e.get 0=pT E/\e.get 3=pT p3/\dH E O s H1 H2 (I9 s q)):=by
 unfold to;obtain⟨s1,s2,s3,s4⟩:=hs;have e4:=u6 U.g;have d2:=u6 S;have gg:=U.g;have a6:ldC (some true) (some 2) 1 W=some (.agg (nmE (qNm q)).toArray):=by rw[a4];rfl
 have r3:W[3]?=some (.string q.vl):=by rw[a4];rfl
 rcases X:decide (q.op=4)with _|_;rcases b5:decide (q.op=5)with _|_;rcases b6:decide (q.op=6)with _|_;rcases b7:decide (q.op=7)with _|_
 .have h:I9 s q=s:=by
   unfold I9;rw[if_neg (dF X),if_neg (dF b5),if_neg (dF b6),if_neg (dF b7)]
  refine J7 f0 f3 f10 X b5 b6 b7 ?_;rw[h];exact⟨O,w1,w2,w3,w4,us,U,jA.refl _ _ _ _⟩
 .have h:I9 s q={s with texts:=bu s.texts q.vl}:=by
   unfold I9;rw[if_neg (dF X),if_neg (dF b5),if_neg (dF b6),if_pos (dT b7)]
  obtain⟨v',h',H2,z,J,hO,hG,hl⟩:=yZ H1 (E+1) w4 s.texts q.vl oM U.t oM;have n2:=hG.next;have g2:H2.get E=cE [w1,w2,w3,w4] 1:=(hG.but E oM (fun q=>by have:=U.inl (w:=w4) sM q;omega)).trans gg;obtain⟨a',c',e'⟩:=hO.slice;have cu:v'.cells.toList=[v']:=by rw[e'];rfl
  have ou:Value.oneCell' v'=true:=by rw[e'];rfl
  refine J15 f0 f3 f10 X b5 b6 b7 gg S r3 z J g2 cu ou ?_;rw[h];exact xx U hO hG hl
 .have h:I9 s q={F6 s (qNm q)with vals:=(F6 s (qNm q)).vals.set (ixN (F6 s (qNm q)).attrs (qNm q)) (bu ((F6 s (qNm q)).vals.getD (ixN (F6 s (qNm q)).attrs (qNm q)) []) q.vl)}:=by
   unfold I9;rw[if_neg (dF X),if_neg (dF b5),if_pos (dT b6)]
  obtain⟨_,h',H2,z,J,rfl,O2,x1,x2,x3,x4,ys,y,a2⟩:=vj H1 E O s w1 w2 w3 w4 us (qNm q) U oM;have b2:=ww s (qNm q);obtain⟨c4,_⟩:=mS (m:=100000) ⟨s1,s2,s3,s4⟩ (qNm q);obtain⟨sA,d5⟩:=eY (F6 s (qNm q));rw[<-d5]at z y a2 h b2 c4;obtain⟨I,b8⟩:=eY (ixN sA.attrs (qNm q));have a3:I<sA.vals.length:=by rw[b8,<-y.al];exact(tQ _ _ b2).2.1
  rw[<-b8]at z h;have e5:=a2.stay.next;have a8:=y.g;have c7:H2.get p3=cE W 1:=(a2.but p3 d2 hp d3).trans S;have b9:sA.vals[I]?=some (sA.vals.getD I []):=by rw[List.getD_eq_getElem?_getD,List.getElem?_eq_getElem a3];rfl
  have d8:=c4 _ (mG b9);obtain⟨u,hu⟩:∃u,ys[I]?=some u:=⟨_,List.getElem?_eq_getElem (by rw[y.len];exact a3)⟩
  have c9:=y.u I u _ hu b9;obtain⟨v',e1,H3,b0,b1,a9,a1,d0⟩:=yZ H2 (E+1) u (sA.vals.getD I []) q.vl oM c9 oM;have hv:=y.v;obtain⟨D,c8,d4⟩:=hv;have e3:=GJ d4;subst e3;have d1:=y.len;rcases c8 with⟨_,q0,_⟩|⟨b3,c3,rfl,a5,e2,_⟩
  .omega
  have h3:j9 (sL b3 D.length c3) b3:=⟨_,_,rfl⟩
  have e6:=a1.next;have g3:H3.get E=cE [x1,x2,sL b3 D.length c3,x4] 1:=(a1.but E oM (fun q=>by have:=y.inl (w:=u) (by simp [mG hu]) q;omega)).trans a8;have a7:H3.get b3=cE D 1:=(a1.but b3 (u6 a5) (fun q=>y.ap (I+4) 2 u _ hu rfl oM b3 q h3)).trans a5;obtain⟨a',c',e'⟩:=a9.slice;have cu:v'.cells.toList=[v']:=by rw[e'];rfl
  have ou:Value.oneCell' v'=true:=by rw[e'];rfl
  have nt:(I:Int).toNat=I:=tN I;have c0:I<D.length:=oM;have i0:(0:Int)<=I:=oM;have i1:(I:Int)<D.length:=oM;have c6:I+1<=D.length:=c0;have d6:splice D I [v']=D.set I v':=rfl;refine J25 f0 f3 f10 X b5 b6 a8 c7 a6 r3 S z J a5 nt hu b0 b1 g3 a7 cu ou c6 @Nat.mul_one d6 ?_;rw[h];obtain⟨O3,y1,y2,y3,y4,zs,R3,T3⟩:=DU y hu a9 a1 d0;exact⟨O3,y1,y2,y3,y4,zs,R3,a2.trans (i4.refl _ _) lR oM T3⟩
 .have h:I9 s q=F6 s (qNm q):=by
   unfold I9;rw[if_neg (dF X),if_pos (dT b5)]
  obtain⟨_,h',H2,z,J,rfl,hQ⟩:=vj H1 E O s w1 w2 w3 w4 us (qNm q) U oM;refine J9 f0 f3 f10 X b5 S a6 z J ?_;rw[h];exact hQ
 .have h:I9 s q={s with names:=V9 s.names (qNm q)}:=by
   unfold I9;rw[if_pos (dT X)]
  obtain⟨v',h',H2,z,J,hO,hG,hl⟩:=GT H1 (E+1) w1 s.names (qNm q) oM U.n oM;have n2:=hG.next;have g2:H2.get E=cE [w1,w2,w3,w4] 1:=(hG.but E oM (fun q=>by have:=U.inl (w:=w1) sM q;omega)).trans gg;obtain⟨a',c',e'⟩:=hO.slice;have cu:v'.cells.toList=[v']:=by rw[e'];rfl
  have ou:Value.oneCell' v'=true:=by rw[e'];rfl
  refine J12 f0 f3 f10 X gg S a6 z J g2 cu ou ?_;rw[h];exact xw U hO hG hl
def dx(fn:Nat)(f:Bool)(k:Nat):Prop:=∀(H:d9)(lo gb:Nat)(O:Nat->Prop)(s:SpD)(w1 w2 w3 w4:Value)(us cs:LV)(q:Q)(m:Nat),lo<=gb->aO H gb O s w1 w2 w3 w4 us->QR H lo k f cs q->Sm s m->m+nQ q<=100000->
 Ret (CL prog O8 fn [pT gb,.agg cs.toArray] H) H fun v H1=>v=undef/\dH gb O s H H1 ((fsQ f q).foldl I9 s)
theorem eg(f:Bool)(l:List Q)(i:Nat)(x:Q)(h:l.drop i=x::l.drop (i+1)):fsL f (l.drop i)=fsQ f x++fsL f (l.drop (i+1)):=by rw[h,fsL]
theorem MI(k:Nat)(ih:dx 79 false k)(H0:d9)(lo u:Nat)(b2:lo<=u)(b4:u<H0.next)(O0:Nat->Prop)(s0:SpD)(va:Option Addr)(ca:Nat)(l:List Q)(hv:QsR H0 lo k false (.slice va l.length ca) l)(hn:l.length<=1048576)(p3:Value)(J:SpD):
  ∀kk e H2,(∃(i:Nat)(s:SpD)(m:Nat),kk=l.length-i/\i<=l.length/\e.get 0=pT u/\e.get 3=p3/\e.get 9= .slice va l.length ca/\e.get 10=iV l.length/\e.get 11=iV i/\dH u O0 s0 H0 H2 s/\Sm s m/\m+nL (l.drop i)<=100000/\(fsL false (l.drop i)).foldl I9 s=J)->
  u9 (LE prog O8 (.loop Gi) e H2) (fun o e H2=>o= .exit 0/\e.get 0=pT u/\e.get 3=p3/\dH u O0 s0 H0 H2 J):=by
 refine j7 _ _ ?_;rintro kk e H2 ⟨i,s,m,b6,hi,f0,f3,fL,fM,fJ,hQ,E,y,W⟩;rcases b:decide ((i:Int)<l.length)with _|_
 .have a6:=dF b;have:l.drop i=[]:=dN oM;rw[this,fsL,List.foldl_nil]at W;refine J3 fM fJ b ?_;exact l7 ⟨rfl,f0,f3,by rw[<-W];exact hQ⟩
 have a6:=dT b;obtain⟨O,w1,w2,w3,w4,us,X,hT⟩:=hQ;have hS:=hT.stay;have b8:=hS.next;have a9:=u6 X.g;obtain⟨x,nb,o,cs,own,el,hx,hd,rfl,b7,hg,b1,z,hr⟩:=hv.row (i:=i) oM;have b9:=mG hx;have nt:(i:Int).toNat=i:=tN i;simp only[qSz,if_true,bF]at z hg b1;rw[eg _ _ _ _ hd,List.foldl_append]at W;have a8:m+(nQ x+nL (l.drop (i+1)))<=100000:=by rw[hd,nL]at y;exact y
 have a1:el.all oC=true:=F0 hr;have U:=hr.len;simp only[qSz,if_true,bF]at U;have I:=M8 hr;rw[U]at I;have gx:=(hS.get nb oM).trans hg;obtain⟨S,D,n3,g3,s3⟩:=pushP H2 (bC [iV 0,nS,nS] 1) (bC el 1);have l3:S.low<=H2.low:=by rw[D,A4,O7];omega
 have b3:splice [iV 0,nS,nS] 0 el=el:=w7 _ _ (by rw[U];rfl);have a2:∀j,j<lo->S.get j=H0.get j:=fun j hj=>by rw[s3.get j oM,hS.get j oM]
 have a3:aO S u O s w1 w2 w3 w4 us:=X.keep (fun j hj=>s3.get j (by rcases hj with rfl|hj;exact a9;exact(X.lt j hj).2)) (fun _ h=>h) (fun b hb=>by have:=X.lt b hb;omega);obtain⟨v4,h4,H4,a7,b0,rfl,O4,x1,x2,x3,x4,ys,a4,a5⟩:=ih S lo u O s w1 w2 w3 w4 us el x m b2 a3 (hr.mono a2 lR) E oM;refine J17 f0 fL fM fJ b gx nt z a1 U b3 D.symm g3 I a7 b0 @wrap_small ?_;have b5:=bU false x;exact i6 (kk-1) oM ⟨i+1,_,m+(fsQ false x).length,oM,oM,f0,f3,fL,fM,rfl,⟨O4,x1,x2,x3,x4,ys,a4,hT.trans s3 l3 oM a5⟩,bG _ E,oM,W⟩
theorem MJ(k:Nat)(ih:dx 101 true k)(H0:d9)(lo u:Nat)(b2:lo<=u)(b4:u<H0.next)(O0:Nat->Prop)(s0:SpD)(va:Option Addr)(ca:Nat)(l:List Q)(hv:QsR H0 lo k true (.slice va l.length ca) l)(hn:l.length<=1048576)(p3:Value)(J:SpD):
  ∀kk e H2,(∃(i:Nat)(s:SpD)(m:Nat),kk=l.length-i/\i<=l.length/\e.get 0=pT u/\e.get 3=p3/\e.get 20= .slice va l.length ca/\e.get 21=iV l.length/\e.get 22=iV i/\dH u O0 s0 H0 H2 s/\Sm s m/\m+nL (l.drop i)<=100000/\(fsL true (l.drop i)).foldl I9 s=J)->
  u9 (LE prog O8 (.loop Gj) e H2) (fun o e H2=>o= .exit 2/\e.get 0=pT u/\e.get 3=p3/\dH u O0 s0 H0 H2 J):=by
 refine j7 _ _ ?_;rintro kk e H2 ⟨i,s,m,b6,hi,f0,f3,fL,fM,fJ,hQ,E,y,W⟩;rcases b:decide ((i:Int)<l.length)with _|_
 .have a6:=dF b;have:l.drop i=[]:=dN oM;rw[this,fsL,List.foldl_nil]at W;refine J3 fM fJ b ?_;exact l7 ⟨rfl,f0,f3,by rw[<-W];exact hQ⟩
 have a6:=dT b;obtain⟨O,w1,w2,w3,w4,us,X,hT⟩:=hQ;have hS:=hT.stay;have b8:=hS.next;have a9:=u6 X.g;obtain⟨x,nb,o,cs,own,el,hx,hd,rfl,b7,hg,b1,z,hr⟩:=hv.row (i:=i) oM;have b9:=mG hx;have nt:(i:Int).toNat=i:=tN i;simp only[qSz,if_true,bF]at z hg b1;rw[eg _ _ _ _ hd,List.foldl_append]at W;have a8:m+(nQ x+nL (l.drop (i+1)))<=100000:=by rw[hd,nL]at y;exact y
 have a1:el.all oC=true:=F0 hr;have U:=hr.len;simp only[qSz,if_true,bF]at U;have I:=M8 hr;rw[U]at I;have gx:=(hS.get nb oM).trans hg;obtain⟨S,D,n3,g3,s3⟩:=pushP H2 (bC [iV 0,.string eB,.string eB,.string eB,nS,nS] 1) (bC el 1);have l3:S.low<=H2.low:=by rw[D,A4,O7];omega
 have b3:splice [iV 0,.string eB,.string eB,.string eB,nS,nS] 0 el=el:=w7 _ _ (by rw[U];rfl);have a2:∀j,j<lo->S.get j=H0.get j:=fun j hj=>by rw[s3.get j oM,hS.get j oM]
 have a3:aO S u O s w1 w2 w3 w4 us:=X.keep (fun j hj=>s3.get j (by rcases hj with rfl|hj;exact a9;exact(X.lt j hj).2)) (fun _ h=>h) (fun b hb=>by have:=X.lt b hb;omega);obtain⟨v4,h4,H4,a7,b0,rfl,O4,x1,x2,x3,x4,ys,a4,a5⟩:=ih S lo u O s w1 w2 w3 w4 us el x m b2 a3 (hr.mono a2 lR) E oM;refine J17 f0 fL fM fJ b gx nt z a1 U b3 D.symm g3 I a7 b0 @wrap_small ?_;have b5:=bU true x;exact i6 (kk-1) oM ⟨i+1,_,m+(fsQ true x).length,oM,oM,f0,f3,fL,fM,rfl,⟨O4,x1,x2,x3,x4,ys,a4,hT.trans s3 l3 oM a5⟩,bG _ E,oM,W⟩
theorem DV(k:Nat)(ih:dx 101 true k)(H0:d9)(lo u:Nat)(b2:lo<=u)(b4:u<H0.next)(O0:Nat->Prop)(s0:SpD)(va:Option Addr)(ca:Nat)(l:List Q)(hv:QsR H0 lo k true (.slice va l.length ca) l)(hn:l.length<=1048576)(p3:Value)(J:SpD):
  ∀kk e H2,(∃(i:Nat)(s:SpD)(m:Nat),kk=l.length-i/\i<=l.length/\e.get 0=pT u/\e.get 3=p3/\e.get 70= .slice va l.length ca/\e.get 71=iV l.length/\e.get 72=iV i/\dH u O0 s0 H0 H2 s/\Sm s m/\m+nL (l.drop i)<=100000/\(fsL true (l.drop i)).foldl I9 s=J)->
  u9 (LE prog O8 (.loop Ad) e H2) (fun o e H2=>o= .exit 1/\e.get 0=pT u/\e.get 3=p3/\dH u O0 s0 H0 H2 J):=by
 refine j7 _ _ ?_;rintro kk e H2 ⟨i,s,m,b6,hi,f0,f3,fL,fM,fJ,hQ,E,y,W⟩;rcases b:decide ((i:Int)<l.length)with _|_
 .have a6:=dF b;have:l.drop i=[]:=dN oM;rw[this,fsL,List.foldl_nil]at W;refine J3 fM fJ b ?_;exact l7 ⟨rfl,f0,f3,by rw[<-W];exact hQ⟩
 have a6:=dT b;obtain⟨O,w1,w2,w3,w4,us,X,hT⟩:=hQ;have hS:=hT.stay;have b8:=hS.next;have a9:=u6 X.g;obtain⟨x,nb,o,cs,own,el,hx,hd,rfl,b7,hg,b1,z,hr⟩:=hv.row (i:=i) oM;have b9:=mG hx;have nt:(i:Int).toNat=i:=tN i;simp only[qSz,if_true,bF]at z hg b1;rw[eg _ _ _ _ hd,List.foldl_append]at W;have a8:m+(nQ x+nL (l.drop (i+1)))<=100000:=by rw[hd,nL]at y;exact y
 have a1:el.all oC=true:=F0 hr;have U:=hr.len;simp only[qSz,if_true,bF]at U;have I:=M8 hr;rw[U]at I;have gx:=(hS.get nb oM).trans hg;obtain⟨S,D,n3,g3,s3⟩:=pushP H2 (bC [iV 0,.string eB,.string eB,.string eB,nS,nS] 1) (bC el 1);have l3:S.low<=H2.low:=by rw[D,A4,O7];omega
 have b3:splice [iV 0,.string eB,.string eB,.string eB,nS,nS] 0 el=el:=w7 _ _ (by rw[U];rfl);have a2:∀j,j<lo->S.get j=H0.get j:=fun j hj=>by rw[s3.get j oM,hS.get j oM]
 have a3:aO S u O s w1 w2 w3 w4 us:=X.keep (fun j hj=>s3.get j (by rcases hj with rfl|hj;exact a9;exact(X.lt j hj).2)) (fun _ h=>h) (fun b hb=>by have:=X.lt b hb;omega);obtain⟨v4,h4,H4,a7,b0,rfl,O4,x1,x2,x3,x4,ys,a4,a5⟩:=ih S lo u O s w1 w2 w3 w4 us el x m b2 a3 (hr.mono a2 lR) E oM;refine J17 f0 fL fM fJ b gx nt z a1 U b3 D.symm g3 I a7 b0 @wrap_small ?_;have b5:=bU true x;exact i6 (kk-1) oM ⟨i+1,_,m+(fsQ true x).length,oM,oM,f0,f3,fL,fM,rfl,⟨O4,x1,x2,x3,x4,ys,a4,hT.trans s3 l3 oM a5⟩,bG _ E,oM,W⟩
theorem DW(k:Nat)(ih:dx 79 false k)(H0:d9)(lo u:Nat)(b2:lo<=u)(b4:u<H0.next)(O0:Nat->Prop)(s0:SpD)(va:Option Addr)(ca:Nat)(l:List Q)(hv:QsR H0 lo k false (.slice va l.length ca) l)(hn:l.length<=1048576)(p3:Value)(J:SpD):
  ∀kk e H2,(∃(i:Nat)(s:SpD)(m:Nat),kk=l.length-i/\i<=l.length/\e.get 0=pT u/\e.get 3=p3/\e.get 81= .slice va l.length ca/\e.get 82=iV l.length/\e.get 83=iV i/\dH u O0 s0 H0 H2 s/\Sm s m/\m+nL (l.drop i)<=100000/\(fsL false (l.drop i)).foldl I9 s=J)->
  u9 (LE prog O8 (.loop Ae) e H2) (fun o e H2=>o= .exit 3/\e.get 0=pT u/\e.get 3=p3/\dH u O0 s0 H0 H2 J):=by
 refine j7 _ _ ?_;rintro kk e H2 ⟨i,s,m,b6,hi,f0,f3,fL,fM,fJ,hQ,E,y,W⟩;rcases b:decide ((i:Int)<l.length)with _|_
 .have a6:=dF b;have:l.drop i=[]:=dN oM;rw[this,fsL,List.foldl_nil]at W;refine J3 fM fJ b ?_;exact l7 ⟨rfl,f0,f3,by rw[<-W];exact hQ⟩
 have a6:=dT b;obtain⟨O,w1,w2,w3,w4,us,X,hT⟩:=hQ;have hS:=hT.stay;have b8:=hS.next;have a9:=u6 X.g;obtain⟨x,nb,o,cs,own,el,hx,hd,rfl,b7,hg,b1,z,hr⟩:=hv.row (i:=i) oM;have b9:=mG hx;have nt:(i:Int).toNat=i:=tN i;simp only[qSz,if_true,bF]at z hg b1;rw[eg _ _ _ _ hd,List.foldl_append]at W;have a8:m+(nQ x+nL (l.drop (i+1)))<=100000:=by rw[hd,nL]at y;exact y
 have a1:el.all oC=true:=F0 hr;have U:=hr.len;simp only[qSz,if_true,bF]at U;have I:=M8 hr;rw[U]at I;have gx:=(hS.get nb oM).trans hg;obtain⟨S,D,n3,g3,s3⟩:=pushP H2 (bC [iV 0,nS,nS] 1) (bC el 1);have l3:S.low<=H2.low:=by rw[D,A4,O7];omega
 have b3:splice [iV 0,nS,nS] 0 el=el:=w7 _ _ (by rw[U];rfl);have a2:∀j,j<lo->S.get j=H0.get j:=fun j hj=>by rw[s3.get j oM,hS.get j oM]
 have a3:aO S u O s w1 w2 w3 w4 us:=X.keep (fun j hj=>s3.get j (by rcases hj with rfl|hj;exact a9;exact(X.lt j hj).2)) (fun _ h=>h) (fun b hb=>by have:=X.lt b hb;omega);obtain⟨v4,h4,H4,a7,b0,rfl,O4,x1,x2,x3,x4,ys,a4,a5⟩:=ih S lo u O s w1 w2 w3 w4 us el x m b2 a3 (hr.mono a2 lR) E oM;refine J17 f0 fL fM fJ b gx nt z a1 U b3 D.symm g3 I a7 b0 @wrap_small ?_;have b5:=bU false x;exact i6 (kk-1) oM ⟨i+1,_,m+(fsQ false x).length,oM,oM,f0,f3,fL,fM,rfl,⟨O4,x1,x2,x3,x4,ys,a4,hT.trans s3 l3 oM a5⟩,bG _ E,oM,W⟩
theorem Xt(k:Nat)(a6:dx 79 false k)(a7:dx 101 true k):dx 79 false (k+1):=by
 intro H lo gb O s w1 w2 w3 w4 us cs q m I y hr S a8;have b2:=dE q;have a5:=u6 y.g;obtain⟨va,X,wa,u,rfl,h1,h2,h3,h4⟩:=hr.path;obtain⟨D,E,-,hg,U⟩:=pushF H (bC [iV q.op,.slice va q.a.length X,.slice wa q.b.length u] 1);have J:H.next<=D.low:=by rw[E,O7];exact lR
 have hn:=U.next;have b1:=u6 hg;have hm:∀j,j<lo->D.get j=H.get j:=fun j W=>U.get j oM;have a3:aO D gb O s w1 w2 w3 w4 us:=y.keep (fun j W=>U.get j (by rcases W with rfl|W;exact a5;exact(y.lt j W).2)) (fun _ h=>h) (fun b hb=>by have:=y.lt b hb;omega);rw[j8 ae3 rfl _ sM,kE,if_neg (by decide),List.nil_append];refine J2 E.symm hg ?_;refine l9 (F:=fun z=>Ret (u5 _ _ _ (u7 (inBlock 0 z) _)) _ _) (MI k a6 D lo gb I oM O s va X q.a (h1.mono hm lR) h3 (pT H.next) ((fsL false q.a).foldl I9 s) q.a.length _ _ ⟨0,s,m,rfl,oM,rfl,rfl,rfl,rfl,rfl,⟨O,w1,w2,w3,w4,us,a3,jA.refl _ _ _ _⟩,S,by rw[List.drop_zero];omega,rfl⟩) ?_;rintro o e' H2 ⟨ho,g0,g3,hQ⟩;have a1:=hQ;obtain⟨_,_,_,_,_,_,_,T⟩:=a1;have b0:=T.stay.next;have a4:H2.get H.next=cE [iV q.op,.slice va q.a.length X,.slice wa q.b.length u] 1:=(T.but H.next oM oM (fun q=>by have:=y.lt _ q;omega)).trans hg;have a9:=gD false q.a;refine J3 ho g3 a4 ?_;refine l9 (F:=fun z=>Ret (u5 _ _ _ (inBlock 2 z)) _ _) (MJ k a7 D lo gb I oM O s wa u q.b (h2.mono hm lR) h4 (pT H.next) ((fsL false q.a++fsL true q.b).foldl I9 s) q.b.length _ _ ⟨0,_,m+(fsL false q.a).length,rfl,oM,g0,g3,rfl,rfl,rfl,hQ,bG _ S,by rw[List.drop_zero];omega,by rw[List.drop_zero,List.foldl_append]⟩) ?_;rintro o e' H3 ⟨ho,g0,g3,a2⟩;refine J1 ho ?_;exact jP U J y a2
theorem MH(k:Nat)(a9:dx 101 true k)(b0:dx 79 false k):dx 101 true (k+1):=by
 intro H lo gb O s w1 w2 w3 w4 us cs q m a1 D hr y b1;have b5:=dE q;have a6:=u6 D.g;obtain⟨va,ca,wa,I,u,h1,h2,h3,h4,_⟩:=hr.filter;obtain⟨S,W,-,hg,hS⟩:=pushF H (bC cs 1);have a2:H.next<=S.low:=by rw[W,O7];exact lR
 have hn:=hS.next;have b4:=u6 hg;have hm:∀j,j<lo->S.get j=H.get j:=fun j hj=>hS.get j oM;have a4:aO S gb O s w1 w2 w3 w4 us:=D.keep (fun j hj=>hS.get j (by rcases hj with rfl|hj;exact a6;exact(D.lt j hj).2)) (fun _ h=>h) (fun b hb=>by have:=D.lt b hb;omega);have al:cs.all oC=true:=by rw[u];rfl
 have r0:cs[0]?=some (.int .i64 q.op):=by rw[u];rfl
 have r4:cs[4]?=some (.slice va q.a.length ca):=by rw[u];rfl
 have r5:cs[5]?=some (.slice wa q.b.length I):=by rw[u];rfl
 have a8:Sm s 100000:=⟨by have:=y.1;omega,by have:=y.2.1;omega,fun l hl=>by have:=y.2.2.1 l hl;omega,by have:=y.2.2.2;omega⟩
 rw[j8 Wr rfl _ sM,kE,if_pos rfl,List.singleton_append,List.foldl_cons,Bool.not_true];refine J4 al W.symm hg r0 ?_;refine l9 (F:=fun z=>Ret (u5 _ _ _ (u7 z _)) _ _) (aB2 S gb H.next O s w1 w2 w3 w4 us q va wa ca I a4 a8 oM (fun h=>by have:=D.lt _ h;omega) cs u hg _ rfl rfl rfl) ?_;rintro o e1 Hs ⟨rfl,g0,U,X⟩;have E:=rS y q;have J:=X;obtain⟨_,_,_,_,_,_,_,T0⟩:=J;have b6:=T0.stay.next;have a7:Hs.get H.next=cE cs 1:=(T0.but H.next oM oM (fun q=>by have:=D.lt _ q;omega)).trans hg;refine J3 U a7 r4 ?_;refine l9 (F:=fun z=>Ret (u5 _ _ _ (u7 (inBlock 1 z) _)) _ _) (DV k a9 S lo gb a1 oM O s va ca q.a (h1.mono hm lR) h3 (pT H.next) ((fsL true q.a).foldl I9 (I9 s q)) q.a.length _ _ ⟨0,I9 s q,m+1,rfl,oM,g0,U,rfl,rfl,rfl,X,E,by rw[List.drop_zero];omega,rfl⟩) ?_;rintro o e' H2 ⟨ho,g0,U,hQ⟩;have J:=hQ;obtain⟨_,_,_,_,_,_,_,T⟩:=J;have b3:=T.stay.next;have a5:H2.get H.next=cE cs 1:=(T.but H.next oM oM (fun q=>by have:=D.lt _ q;omega)).trans hg;have b2:=gD true q.a;refine J4 ho U a5 r5 ?_;refine l9 (F:=fun z=>Ret (u5 _ _ _ (inBlock 3 z)) _ _) (DW k b0 S lo gb a1 oM O s wa I q.b (h2.mono hm lR) h4 (pT H.next) ((fsL true q.a++fsL false q.b).foldl I9 (I9 s q)) q.b.length _ _ ⟨0,_,m+1+(fsL true q.a).length,rfl,oM,g0,U,rfl,rfl,rfl,hQ,bG _ E,by rw[List.drop_zero];omega,by rw[List.drop_zero,List.foldl_append]⟩) ?_;rintro o e' H3 ⟨ho,g0,U,a3⟩;refine J1 ho ?_;exact jP hS a2 D a3
theorem DX:∀k,dx 79 false k/\dx 101 true k:=by
 intro k;induction k with
 |zero=>exact⟨fun H lo y O s w1 w2 w3 w4 us cs q m _ _ u=>u.elim,fun H lo y O s w1 w2 w3 w4 us cs q m _ _ u=>u.elim⟩
 |succ k h=>exact⟨Xt k h.1 h.2,MH k h.2 h.1⟩
structure SpO(H:d9)(lo:Nat)(O:Nat->Prop)(s:SpD)(w1 w2 w3 w4:Value)(us:LV):Prop where
 n:t7 H lo 2 (R1 nmE) w1 s.names
 a:t7 H lo 2 (R1 nmE) w2 s.attrs
 v:t7 H lo 1 (R1 fun u=>[u]) w3 us
 len:us.length=s.vals.length
 u:∀(i:Nat)(u:Value)(l:List ByteArray),us[i]?=some u->s.vals[i]?=some l->t7 H lo 1 (R1 stE) u l
 t:t7 H lo 1 (R1 stE) w4 s.texts
 ap:aJ (w1::w2::w3::w4::us)
 o:∀w∈w1::w2::w3::w4::us,∀b,j9 w b->O b
 lt:∀b,O b->lo<=b/\b<H.next
theorem SpO.keep{H H':d9}{lo z:Nat}{O I:Nat->Prop}{s:SpD}{w1 w2 w3 w4:Value}{us:LV}(h:SpO H lo O s w1 w2 w3 w4 us)(D:∀j,O j->H'.get j=H.get j) (W:∀b,O b->I b) (S:∀b,I b->z<=b/\b<H'.next) (E:z<=lo):SpO H' z I s w1 w2 w3 w4 us:=
 ⟨(h.n.same fun b y=>D b (h.o _ sM b y)).weaken E,(h.a.same fun b y=>D b (h.o _ sM b y)).weaken E,(h.v.same fun b y=>D b (h.o _ sM b y)).weaken E,h.len,
  fun i u l U J=>((h.u i u l U J).same fun b y=>D b (h.o _ (by simp [mG U]) b y)).weaken E,(h.t.same fun b y=>D b (h.o _ sM b y)).weaken E,h.ap,fun w X b y=>W b (h.o w X b y),S⟩
theorem aO.spo{H:d9}{y:Nat}{O:Nat->Prop}{s:SpD}{w1 w2 w3 w4:Value}{us:LV}(h:aO H y O s w1 w2 w3 w4 us):SpO H (y+1) O s w1 w2 w3 w4 us:=⟨h.n,h.a,h.v,h.len,h.u,h.t,h.ap,h.o,fun b z=>h.lt b z⟩
theorem rO(k:Nat)(H0:d9)(lo u:Nat)(b2:lo<=u)(b4:u<H0.next)(O0:Nat->Prop)(s0:SpD)(va:Option Addr)(ca:Nat)(l:List Q)(hv:QsR H0 lo k false (.slice va l.length ca) l)(hn:l.length<=1048576)(p2:Value)(J:SpD):
  ∀kk e H2,(∃(i:Nat)(s:SpD)(m:Nat),kk=l.length-i/\i<=l.length/\e.get 3=pT u/\e.get 2=p2/\e.get 6= .slice va l.length ca/\e.get 7=iV l.length/\e.get 8=iV i/\dH u O0 s0 H0 H2 s/\Sm s m/\m+nL (l.drop i)<=100000/\(fsL false (l.drop i)).foldl I9 s=J)->
  u9 (LE prog O8 (.loop FK) e H2) (fun o e H2=>o= .exit 0/\e.get 3=pT u/\e.get 2=p2/\dH u O0 s0 H0 H2 J):=by
 refine j7 _ _ ?_;rintro kk e H2 ⟨i,s,m,b6,hi,f0,f3,fL,fM,fJ,hQ,E,y,W⟩;rcases b:decide ((i:Int)<l.length)with _|_
 .have a6:=dF b;have:l.drop i=[]:=dN oM;rw[this,fsL,List.foldl_nil]at W;refine J3 fM fJ b ?_;exact l7 ⟨rfl,f0,f3,by rw[<-W];exact hQ⟩
 have a6:=dT b;obtain⟨O,w1,w2,w3,w4,us,X,hT⟩:=hQ;have hS:=hT.stay;have b8:=hS.next;have a9:=u6 X.g;obtain⟨x,nb,o,cs,own,el,hx,hd,rfl,b7,hg,b1,z,hr⟩:=hv.row (i:=i) oM;have nt:(i:Int).toNat=i:=tN i;simp only[qSz,bF]at z hg b1;rw[eg _ _ _ _ hd,List.foldl_append]at W;have a8:m+(nQ x+nL (l.drop (i+1)))<=100000:=by rw[hd,nL]at y;exact y
 have a1:el.all oC=true:=F0 hr;have U:=hr.len;simp only[qSz,bF]at U;have I:=M8 hr;rw[U]at I;have gx:=(hS.get nb oM).trans hg;obtain⟨S,D,n3,g3,s3⟩:=pushP H2 (bC [iV 0,nS,nS] 1) (bC el 1);have l3:S.low<=H2.low:=by rw[D,A4,O7];omega
 have b3:splice [iV 0,nS,nS] 0 el=el:=w7 _ _ (by rw[U];rfl);have a2:∀j,j<lo->S.get j=H0.get j:=fun j hj=>by rw[s3.get j oM,hS.get j oM]
 have a3:aO S u O s w1 w2 w3 w4 us:=X.keep (fun j hj=>s3.get j (by rcases hj with rfl|hj;exact a9;exact(X.lt j hj).2)) (fun _ h=>h) (fun b hb=>by have:=X.lt b hb;omega);obtain⟨v4,h4,H4,a7,b0,rfl,O4,x1,x2,x3,x4,ys,a4,a5⟩:=(DX k).1 S lo u O s w1 w2 w3 w4 us el x m b2 a3 (hr.mono a2 lR) E oM;refine J17 f0 fL fM fJ b gx nt z a1 U b3 D.symm g3 I a7 b0 @wrap_small ?_;have b5:=bU false x;exact i6 (kk-1) oM ⟨i+1,_,m+(fsQ false x).length,oM,oM,f0,f3,fL,fM,rfl,⟨O4,x1,x2,x3,x4,ys,a4,hT.trans s3 l3 oM a5⟩,bG _ E,oM,W⟩
theorem NN(H:d9)(lo k:Nat)(v:Value)(l:List Q)(b8:lo<=H.next)(hv:QsR H lo k false v l)(b6:nL l<=100000)(hn:l.length<=1048576):
  Ret (CL prog O8 52 [v] H) H fun w J=>∃w1 w2 w3 w4 us O,w= .agg #[w1,w2,w3,w4]/\SpO J H.next O ((fsL false l).foldl I9 ⟨[],[],[],[]⟩) w1 w2 w3 w4 us/\i4 H.next H J:=by
 obtain⟨va,ca,rfl⟩:=SlI.slice hv;obtain⟨U,X⟩:=eY ([nS,nS,nS,nS]:LV);obtain⟨J,I⟩:=eY ((d9.push ⟨H.bs,H.next⟩ (bC U 1)).push (bC U 1));have n0:(d9.push ⟨H.bs,H.next⟩ (bC U 1)).next=H.next+1:=by rw[i5];rfl
 have n1:J.next=H.next+2:=by rw[I,i5,n0]
 have hS:i4 H.next H J:=by rw[I];exact(i4.first H _).trans (i4.push oM)
 have g1:J.get H.next=cE U 1:=by rw[I,j6 oM];exact i7
 have g2:J.get (H.next+1)=cE U 1:=by rw[I];exact R2 oM
 have a6:H.next<=J.low:=by rw[I,O7,O7];exact lR
 have hm:∀j,j<lo->J.get j=H.get j:=fun j hj=>hS.get j oM;have a5:aJ ([nS,nS,nS,nS]:LV):=fun i j a b ha S b7 x hx hy=>by
  have:a=nS:=by
   have:=mG ha
   simpa using this
  rw[this]at hx;exact A9 x hx
 have a8:∀w∈([nS,nS,nS,nS]:LV),∀b,j9 w b->False:=fun w hw b S=>by
  have:w=nS:=by simpa using hw
  rw[this]at S;exact A9 b S
 have b2:aO J (H.next+1) (fun _=>False) ⟨[],[],[],[]⟩ (nS) (nS) (nS) (nS) []:=⟨by rw[g2,X],t7.nil,t7.nil,t7.nil,rfl,rfl,fun i u l hu=>(by cases hu),t7.nil,a5,a8,fun b S=>S.elim⟩
 rw[j8 az5 rfl _ sM];refine J2 X.symm I.symm ?_;refine l9 (F:=fun z=>Ret (u5 _ _ _ (u7 (inBlock 0 z) _)) _ _) (rO k J lo (H.next+1) oM oM (fun _=>False) ⟨[],[],[],[]⟩ va ca l (SlI.mono hv hm lR fun _ _ h=>h.mono hm lR) hn (pT H.next) _ l.length _ _ ⟨0,⟨[],[],[],[]⟩,0,rfl,oM,rfl,rfl,rfl,rfl,rfl,⟨_,_,_,_,_,_,b2,jA.refl _ _ _ _⟩,⟨lR,lR,fun l hl=>(by cases hl),lR⟩,by rw[List.drop_zero];omega,rfl⟩) ?_;rintro o e' H2 ⟨ho,q3,q2,O,w1,w2,w3,w4,us,E,hT⟩;rw[List.drop_zero]at E hT;have n2:=hT.stay.next;have gg:=E.g;have b1:H2.get H.next=cE U 1:=(hT.stay.get _ oM).trans g1;obtain⟨a1,c1,e1⟩:=E.n.slice;obtain⟨a2,c2,e2⟩:=E.a.slice;obtain⟨a3,c3,e3⟩:=E.v.slice;obtain⟨a4,c4,e4⟩:=E.t.slice;obtain⟨D,y⟩:∃r,r=[w1,w2,w3,w4]:=eX;rw[<-y]at gg;have b4:ldC (some true) (some 4) 0 D=some (.agg D.toArray):=by rw[y];rfl
 have b0:D.all oC=true:=by rw[y,e1,e2,e3,e4];rfl
 have l4:D.length=4:=by rw[y];rfl
 have lz:U.length=4:=by rw[X];rfl
 have b5:splice U 0 D=D:=w7 _ _ (by rw[l4,lz]);obtain⟨H3,W⟩:=eY (H2.put H.next (bC D 1));have n3:H3.next=H2.next:=by rw[W,j5]
 have g3:H3.get H.next=cE D 1:=by rw[W];exact i8 oM
 have a9:i4 H.next J H3:=by rw[W];exact(hT.stay.weaken oM).trans (i4.put lR)
 have b3:=a9.low a6;refine J12 ho q3 q2 gg b4 b1 l4 lz b0 b5 W.symm g3 ?_;have a7:SpO H3 H.next O _ w1 w2 w3 w4 us:=E.spo.keep (fun j hj=>by rw[W,i9 (oN (E.lt j hj))]) (fun _ h=>h) (fun b S=>by have:=E.lt b S;omega) oM;refine ce (fun hc=>?_) ?_
 .rw[y]at hc;simp only[List.all_cons,List.all_nil,Bool.and_true,Bool.and_eq_true]at hc;obtain⟨z1,y1⟩:=au E.n hc.1;obtain⟨z2,y2⟩:=au E.a hc.2.1;obtain⟨z3,y3⟩:=au E.v hc.2.2.1;obtain⟨U,y4⟩:=au E.t hc.2.2.2;have y5:=E.len;rw[y3]at y5;have y6:=List.length_eq_zero_iff.1 y5.symm;refine⟨w1,w2,w3,w4,[],fun _=>False,by rw[y],⟨?_,?_,?_,(by rw[y6];rfl),fun i u l hu=>(by cases hu),?_,(by rw[z1,z2,z3,U];exact a5),fun w hw b S=>?_,fun b S=>S.elim⟩,i4.refl _ _⟩
  .rw[y1,z1];exact t7.nil
  .rw[y2,z2];exact t7.nil
  .rw[z3];exact t7.nil
  .rw[y4,U];exact t7.nil
  .rw[z1,z2,z3,U]at hw;have:w=nS:=by simpa using hw
   rw[this]at S;exact A9 b S
 .exact⟨w1,w2,w3,w4,us,O,by rw[y],a7.keep (fun _ _=>rfl) (fun _ h=>h) a7.lt lR,(hS.trans a9).ret b3⟩
def R4:List (NmQ×List ByteArray)->EvD->List EvD
 |[],e=>[e]
 |x::r,e=>R4 r e++(Q8 x.2).flatMap fun v=>R4 r (atV x.1 e v)
theorem AN(l:List ByteArray):Q8 l=l++[frS l eB [eB]]:=by
 have u:∀n,eB++dg n=dg n:=fun n=>by
  have y:=aX eB (dg n);exact oF (by rw[y];rfl)
 have z:frN l eB=T7 l:=by unfold frN T7;simp only[u]
 rw[Q8,frS,List.find?_cons];cases h:V0 l eB with
 |true=>simp [z,u]
 |false=>simp
structure su(H:d9)(G:Nat->Prop)(pw pf:Nat)(fv:Value)(s:SpD)(w1 w2 w3 w4:Value):Prop where
 gw:H.get pw=cE [w1,w2,w3,w4] 1
 gf:H.get pf=cE [fv] 1
 iw:G pw
 jf:G pf
 a:SlF H G 2 (R1 nmE) w2 s.attrs
 v:SlF H G 1 (VlF H G) w3 s.vals
 len:s.vals.length=s.attrs.length
 al:s.attrs.length<=1000
 vl:∀x∈s.vals,x.length<=90
theorem su.mono{H H':d9}{G G':Nat->Prop}{D z:Nat}{E:Value}{s:SpD}{w1 w2 w3 w4:Value}(h:su H G D z E s w1 w2 w3 w4)(y:∀j,G j->H'.get j=H.get j) (u:∀j,G j->G' j):su H' G' D z E s w1 w2 w3 w4:=
 ⟨(y D h.iw).trans h.gw,(y z h.jf).trans h.gf,u _ h.iw,u _ h.jf,h.a.mono y u iF,h.v.mono y u (fun _ _ h=>h.mono y u),h.len,h.al,h.vl⟩
structure dI(H:d9)(po:Nat)(G:Nat->Prop)(w:Value)(l:List EvD):Prop where
 g:H.get po=cE [w] 1
 own:t7 H (po+1) 5 (EvF H G) w l
 ap:∀j,G j->j<H.next/\j≠po/\¬j9 w j
structure cd(po:Nat)(G0:Nat->Prop)(w0:Value)(H0:d9)(G:Nat->Prop)(w:Value)(H:d9):Prop where
 sub:∀j,G0 j->G j
 new:∀j,G j->G0 j\/H0.next<=j
 but:∀j,j<H0.next->j≠po->¬j9 w0 j->H.get j=H0.get j
 neww:∀b,j9 w b->j9 w0 b\/H0.next<=b
 stay:i4 po H0 H
theorem cd.refl(po:Nat)(G:Nat->Prop)(w:Value)(H:d9):cd po G w H G w H:=⟨fun _ h=>h,fun _ h=> .inl h,fun _ _ _ _=>rfl,fun _ h=> .inl h,i4.refl _ _⟩
theorem cd.trans{po:Nat}{y G1 G2:Nat->Prop}{w0 w1 w2:Value}{H0 z H2:d9}(h:cd po y w0 H0 G1 w1 z)(k:cd po G1 w1 z G2 w2 H2):cd po y w0 H0 G2 w2 H2:=by
 have J:=h.stay.next;refine⟨fun j u=>k.sub j (h.sub j u),fun j u=>?_,fun j u D E=>?_,fun b I=>?_,h.stay.trans k.stay⟩
 .rcases k.new j u with q|q
  .exact h.new j q
  .exact .inr oM
 .rw[k.but j oM D (fun q=>by rcases h.neww j q with r|r;exact E r;omega),h.but j u D E]
 .rcases k.neww b I with q|q
  .exact h.neww b q
  .exact .inr oM
theorem dI.push{H z:d9}{po:Nat}{G G1:Nat->Prop}{w:Value}{l:List EvD}(h:dI H po G w l)(y:i4 H.next H z)(E:∀j,G j->G1 j) (I:∀j,G1 j->G j\/(H.next<=j/\j<z.next)):dI z po G1 w l/\cd po G w H G1 w z:=by
 have O:=y.next;have D:=u6 h.g;refine⟨⟨(y.get po D).trans h.g,(h.own.keep y).imp fun cs a q=>w9 _ _ _ _ _ _ q (fun j u=>y.get j (h.ap j u).1) E,fun j u=>?_⟩,E,fun j u=>(I j u).imp id fun q=>q.1,fun j u _ _=>y.get j u,fun b J=> .inl J,y.weaken oM⟩;rcases I j u with q|q
 .have:=h.ap j q;exact⟨oM,this.2⟩
 .exact⟨q.2,oM,fun r=>by have:=h.own.lt r;omega⟩
theorem dI.add{H:d9}{po:Nat}{G:Nat->Prop}{w:Value}{l:List EvD}(h:dI H po G w l){u:LV}{e:EvD}(U:EvF H G u e)(hl:l.length<=1000000):
  ∃v' E H',fb prog (H.push (bC u 5)) [35,35] w (sL H.next 1 1)=dr v' E/\E.getD (H.push (bC u 5))=H'/\H'.get po=cE [w] 1/\(∃a c,v'= .slice a (l++[e]).length c)/\
   dI (H'.put po (bC [v'] 1)) po G v' (l++[e])/\cd po G w H G v' (H'.put po (bC [v'] 1)):=by
 have J:=u6 h.g;have D:u.length=5:=by obtain⟨v,rfl,_⟩:=U;rfl
 obtain⟨v',E,H',r1,r2,I,y⟩:=h.own.push1F (P:=prog) (t:=35) (cs:=u) (a:=e) (by exact uT.2.2.2.2.2.2) aG.1 aG.2.1 aG.2.2.1 oM oM D U oM oM;have hn:=y.next;have nb:¬j9 w po:=fun q=>oN (h.own.lt q);have W:=(y.but po J nb).trans h.g;have nv:¬j9 v' po:=fun q=>oN (I.lt q);have O:∀j,j<H.next->j≠po->¬j9 w j->(H'.put po (bC [v'] 1)).get j=H.get j:=fun j z X h2=>by rw[i9 (fun q=>X q.symm),y.but j z h2]
 refine⟨v',E,H',r1,r2,W,I.slice,⟨i8 oM,(I.same fun b S=>i9 (fun q=>by rw[<-q]at S;exact nv S)).imp fun cs a q=>w9 _ _ _ _ _ _ q (fun j z=>by have:=h.ap j z;exact O j this.1 this.2.1 this.2.2) (fun _ h=>h),fun j z=>?_⟩,fun _ h=>h,fun _ h=> .inl h,O,y.new,(y.stay.weaken oM).trans (i4.put lR)⟩;have:=h.ap j z;refine⟨by rw[j5];omega,this.2.1,fun q=>?_⟩;rcases y.new j q with r|r
 .exact this.2.2 r
 .omega
abbrev xu(pw po pf:Nat):Value:= .func (.func 54) #[] #[pT pw,pT po,pT pf]
def jZ(rest:List (NmQ×List ByteArray)):Prop:=∀(H:d9)(pw po pf i:Nat)(G:Nat->Prop)(s:SpD)(w1 w2 w3 w4 w:Value)(l:List EvD)(row:LV)(e:EvD),
 su H G pw pf (xu pw po pf) s w1 w2 w3 w4->dI H po G w l->EvF H G row e->(s.attrs.zip s.vals).drop i=rest->i+rest.length=s.attrs.length->l.length+(R4 rest e).length<=1000000->e.attrs.length+rest.length<=1000->
 Ret (CL prog O8 54 [.agg row.toArray,iV i,pT pw,pT po,pT pf] H) H fun v H1=>v=undef/\∃G' w',dI H1 po G' w' (l++R4 rest e)/\cd po G w H G' w' H1/\H1.low<=po
theorem ao9{H y H':d9}{po:Nat}{G G1:Nat->Prop}{w z:Value}{l:List EvD}(W:po<H.next)(hw:∀b,j9 w b->po+1<=b/\b<H.next) (O:i4 H.next H y) (E:cd po G w H G1 w y) {G':Nat->Prop} (D:dI H' po G' z l) (S:cd po G1 w y G' z H') (J:H'.low<=po) (I:H.next<=y.low):
  Ret (some (D4 undef H H')) H fun v y=>v=undef/\∃G' z,dI y po G' z l/\cd po G w H G' z y/\y.low<=po:=by
 refine D7 (fun _ X=>oM) ⟨rfl,G',z,⟨D.g,D.own.low _ |>.imp fun cs a q=>w9 _ _ _ _ _ _ q (fun _ _=>rfl) (fun _ h=>h),D.ap⟩,?_,by show min H.low H'.low<=po;omega⟩;have u:=E.trans S;refine⟨u.sub,u.new,u.but,u.neww,⟨u.stay.next,fun k U q=>?_,u.stay.get⟩⟩;have:=u.stay.lowAll k U q;show k<=min H.low H'.low;omega
theorem Od:jZ []:=by
 intro H pw po pf i G s w1 w2 w3 w4 w l u e hC J he hd hi hl b4;have b0:=u6 J.g;have a8:=he;obtain⟨av,y,a6⟩:=a8;obtain⟨b2,b3,rfl⟩:=a6.slice;obtain⟨aa,ac,rfl⟩:=hC.a.slice;have ar:u.all oC=true:=by rw[y];rfl
 have lr:u.length=5:=by rw[y];rfl
 have b1:ldC (some true) (some 5) 0 u=some (.agg u.toArray):=by rw[y];rfl
 obtain⟨D,E,n1,g1,X⟩:=pushF H (bC u 1);have W:H.next<=D.low:=by rw[E];exact lR
 obtain⟨O,a5⟩:=J.push (G1:=G) X (fun _ h=>h) (fun _ h=> .inl h);have a4:=hC.mono (H':=D) (fun j hj=>X.get j (J.ap j hj).1) (fun _ h=>h);have a7:=w9 _ _ _ _ _ _ he (fun j hj=>X.get j (J.ap j hj).1) (fun _ h=>h);obtain⟨v',h',H3,r1,r2,g3,⟨a',c',e'⟩,S,U⟩:=O.add a7 (by rw[R4]at hl;simp at hl;omega);obtain⟨H2,I⟩:=eY (D.push (bC u 5));rw[<-I]at r1 r2;have a1:bsA prog (some 51) D 1 [(0,.agg u.toArray)]=some (sL D.next 1 1,H2):=by
  rw[I];simp only[C7,aG,C8];rw[y];rfl
 obtain⟨H4,z⟩:=eY (H3.put po (bC [v'] 1));rw[<-z]at S U;have cu:v'.cells.toList=[v']:=by rw[e'];rfl
 have ou:Value.oneCell' v'=true:=by rw[e'];rfl
 have a9:H4.low<=po:=by rw[z,A4];omega
 have bi:decide ((i:Int)=s.attrs.length)=true:=decide_eq_true (by simp at hi;omega);have a3:=a4.gw;have a2:=O.g;have q1:∀a b c d:Value,[a,b,c,d][1]?=some b:=fun _ _ _ _=>rfl;rw[j8 Xm rfl _ sM];refine J15 ar E.symm a3 q1 bi g1 b1 a2 a1 r1 r2 g3 cu ou z.symm ?_;exact ao9 b0 (fun b hb=>J.own.lt hb) X a5 S U a9 W
theorem Bg(n:NmQ)(l8:List ByteArray)(rest:List (NmQ×List ByteArray))(ih:jZ rest)(H0:d9)(pw po pf pe i:Nat)(E:Nat->Prop)(s:SpD)(w1 w2 w3 w4 w0:Value)(u:LV)(e0:EvD)(va:Option Addr)(ca:Nat)(I:List ByteArray)
  (D:su H0 E pw pf (xu pw po pf) s w1 w2 w3 w4) (c5:∀j,E j->j<H0.next/\j≠po/\¬j9 w0 j) (l4:po<H0.next) (he:EvF H0 E u e0) (d3:E pe) (g9:H0.get pe=cE u 1) (hv:SlF H0 E 1 (R1 stE) (.slice va I.length ca) I) (l6:I.length<=1000) (l5:1<=I.length)
  (hd:(s.attrs.zip s.vals).drop (i+1)=rest) (hi:i+1+rest.length=s.attrs.length) (hn:s.attrs[i]?=some n) (k4:e0.attrs.length+1+rest.length<=1000) (a4:List EvD):
  ∀kk e H2,(∃(j:Nat)(G:Nat->Prop)(w:Value)(l:List EvD),kk=I.length-j/\j<=I.length/\e.get 1=iV i/\e.get 2=pT pw/\e.get 4=pT pf/\e.get 5=pT pe/\e.get 40= .slice va I.length ca/\e.get 41=iV I.length/\e.get 42=iV j/\
    dI H2 po G w l/\cd po E w0 H0 G w H2/\(j=0\/H2.low<=po)/\l++((I.drop j).flatMap fun v=>R4 rest (atV n e0 v))=a4/\a4.length<=1000000)->
  u9 (LE prog O8 (.loop FM) e H2) (fun o e H2=>o= .exit 0/\∃(G:Nat->Prop)(w:Value),dI H2 po G w a4/\cd po E w0 H0 G w H2/\H2.low<=po):=by
 refine j7 _ _ ?_;rintro kk e H2 ⟨j,G,w,l,k9,z,f1,f2,f4,f5,f40,f41,f42,hO,hT,l3,fu,d4⟩;rcases b:decide ((j:Int)<I.length)with _|_
 .have g4:=dF b;have:I.drop j=[]:=dN oM;rw[this,List.flatMap_nil,List.append_nil]at fu;refine J3 f41 f42 b ?_;exact l7 ⟨rfl,G,w,by rw[<-fu];exact hO,hT,oM⟩
 have g4:=dT b;have fr:∀j,E j->H2.get j=H0.get j:=fun j z=>by have:=c5 j z;exact hT.but j this.1 this.2.1 this.2.2
 have nx:=hT.stay.next;obtain⟨v,nb,o,cs,own,k0,hx,g5,rfl,hF,hg,l1,j1,hc,rfl⟩:=hv.row (i:=j) oM;have c0:=hc 0 oM;rw[Nat.add_zero]at c0;have h5:(j:Int).toNat=j:=tN j;rw[g5,List.flatMap_cons,<-List.append_assoc]at fu;have gv:=(fr nb hF).trans hg;have k2:=D.mono fr hT.sub;obtain⟨av,U,c7⟩:=w9 _ _ _ _ _ _ he fr hT.sub;obtain⟨b1,b2,rfl⟩:=c7.slice;have j0:po<H2.next:=oM;have ar:u.all oC=true:=by rw[U];rfl
 have lr:u.length=5:=by rw[U];rfl
 have h3:ldC (some true) (some 5) 0 u=some (.agg u.toArray):=by rw[U];rfl
 have r3:u[3]?=some (.slice b1 e0.attrs.length b2):=by rw[U];rfl
 have b6:=(fr pe d3).trans g9;obtain⟨Ha,c3,na,g8,-⟩:=pushE H2 (bC [iV 0,.string eB,.string eB,nS,.string eB] 1);obtain⟨X,a2⟩:=eY (Ha.put H2.next (bC u 1));have n3:X.next=H2.next+1:=by rw[a2,j5,na]
 have s3:i4 H2.next H2 X:=by rw[a2,c3];exact(i4.push lR).trans (i4.put lR)
 have g3:X.get H2.next=cE u 1:=by rw[a2];exact i8 oM
 have h7:splice [iV 0,.string eB,.string eB,nS,.string eB] 0 u=u:=w7 _ _ (by rw[lr];rfl);have a9:∀j,E j->j<H2.next:=fun j z=>oN (c5 j z);have a1:∀j,E j->X.get j=H2.get j:=fun j z=>s3.get j (a9 j z);have e1:=(a1 pe d3).trans b6;have b8:=(a1 pw D.iw).trans ((fr pw D.iw).trans D.gw);have k1:=(a1 pf D.jf).trans ((fr pf D.jf).trans D.gf);obtain⟨cv,k6,H4,c8,d0,e9,s4⟩:=vn (α:=AtD) (R1 atE) X X.next (.slice b1 e0.attrs.length b2) e0.attrs lR ((c7.mono (H':=X) (F':=(· <X.next)) (fun j z=>by have:=hO.ap j z;exact s3.get j this.1) (fun j z=>by have:=hO.ap j z;omega) iF).sl fun _ h=>h) oM;have n4:=s4.next;have b4:∀j,E j->H4.get j=X.get j:=fun j z=>s4.get j (oN (a9 j z));obtain⟨aa,ac,e2⟩:=D.a.slice;obtain⟨nn,b0,oa,j3,j2,j4,h2,k7,d8,a7,d1,i2,a8,k5,rfl⟩:=(e2▸D.a).row (i:=i) (by have:=(gS hn).1;exact this);obtain rfl:n=nn:=Option.some.inj (hn.symm.trans h2);have b7:=(a1 b0 a7).trans ((fr b0 a7).trans d1);have e4:=(b4 b0 a7).trans b7;have e5:=(b4 pw D.iw).trans b8;have h4:(i:Int).toNat=i:=tN i;have k8:(i:Int)<s.attrs.length:=oN ((gS hn).1);obtain⟨H5,b9⟩:=eY (H4.push (bC [.string n.1,.string n.2,.string v] 3));obtain⟨W,h6,H6,c4,a5,a3,s6⟩:=e9.push1 (P:=prog) (t:=49) (by exact yM.2.2.2.2.2.2) ik.1 ik.2.1 ik.2.2.1 oM oM (cs:=[.string n.1,.string n.2,.string v]) (a:=(⟨n.1,n.2,v⟩:AtD)) rfl rfl oM oM;rw[<-b9]at c4 a5;have n6:=s6.next;obtain⟨a6,c6,e6⟩:=a3.slice;have cu:W.cells.toList=[W]:=by rw[e6];rfl
 have ou:Value.oneCell' W=true:=by rw[e6];rfl
 have e7:H6.get H2.next=cE u 1:=by rw[s6.get _ oM,s4.get _ oM];exact g3
 obtain⟨y,S⟩:=eY (u.set 3 W);have J:y=[iV e0.kind,.string e0.space,.string e0.loc,W,.string e0.text]:=by rw[S,U];rfl
 have h9:splice u 3 [W]=y:=by rw[S];rfl
 obtain⟨H7,O⟩:=eY (H6.put H2.next (bC y 1));have n7:H7.next=H6.next:=by rw[O,j5]
 have g7:H7.get H2.next=cE y 1:=by rw[O];exact i8 oM
 have d5:ldC (some true) (some 5) 0 y=some (.agg y.toArray):=by rw[J];rfl
 have d6:i4 H2.next H2 H7:=by rw[O];exact((s3.trans (s4.weaken oM)).trans (s6.weaken oM)).trans (i4.put lR)
 obtain⟨f0,g1⟩:=hO.push (G1:=fun j=>G j\/j9 W j) d6 (fun _ h=> .inl h) (fun j z=>z.imp id fun q=>by have:=a3.lt q;omega);have g6:EvF H7 (fun j=>G j\/j9 W j) y (atV n e0 v):=⟨W,J,(a3.same (H':=H7) fun b hb=>by rw[O];exact i9 (fun q=>by have:=a3.lt hb;omega)).frz fun b hb=> .inr hb⟩
 have b5:∀j,E j->H7.get j=H2.get j:=fun j z=>d6.get j (a9 j z);have e8:=D.mono (H':=H7) (G':=fun j=>G j\/j9 W j) (fun j z=>(b5 j z).trans (fr j z)) (fun j z=> .inl (hT.sub j z));have e3:=(b5 pf D.jf).trans ((fr pf D.jf).trans D.gf);have i1:(atV n e0 v).attrs.length=e0.attrs.length+1:=by simp [atV]
 have i3:l.length+(R4 rest (atV n e0 v)).length+((I.drop (j+1)).flatMap fun v=>R4 rest (atV n e0 v)).length=a4.length:=by rw[<-fu,List.length_append,List.length_append]
 obtain⟨vv,h8,H8,c9,d2,rfl,G8,w8,g0,g2,h1⟩:=ih H7 pw po pf (i+1) _ s w1 w2 w3 w4 w l y (atV n e0 v) e8 f0 g6 hd hi oM oM;have h0:((i:Int)+1)=((i+1:Nat):Int):=oM;have q1:∀a b c d:Value,[a,b,c,d][1]?=some b:=fun _ _ _ _=>rfl;have i0:(0:Int)<=i:=oM;have b3:bsA prog (some 53) H4 1 [(0,.agg #[.string n.1,.string n.2,.string v])]=some (sL H4.next 1 1,H5):=by
  rw[b9];simp only[C7,ik,C8];rfl
 have k3:=D.al;subst d8;refine J30 f1 f2 f4 f5 f40 f41 f42 b gv h5 c0 b6 h3 c3.symm (aI g8 lr) (aI ar h7) (aI a2.symm r3) (aI e1 b8) (aI c8 d0) (aI e5 q1) (aI e2 h4) (aI b7 e4) (aI a8 b3) (aI c4 a5) (aI e7 cu) (aI ou h9) (aI O.symm g7) (aI d5 e3) (aI h0 c9) (aI d2 @wrap_small) ?_;exact i6 (kk-1) oM ⟨j+1,G8,w8,_,oM,oM,f1,f2,f4,f5,f40,f41,rfl,g0,(hT.trans g1).trans g2,.inr h1,fu,d4⟩
theorem NX{α β:Type}:∀(a:List α)(b:List β)(i:Nat)(x:α×β)(r:List (α×β)),(a.zip b).drop i=x::r->a[i]?=some x.1/\b[i]?=some x.2/\(a.zip b).drop (i+1)=r:=by
 intro a b i x r h;have u:i<(a.zip b).length:=by
  apply Classical.byContradiction;intro q;rw[dN oM]at h;cases h
 rw[List.drop_eq_getElem_cons u]at h
 injection h with h1 h2
 rw[List.length_zip]at u;rw[List.getElem_zip]at h1;refine⟨?_,?_,h2⟩
 .rw[List.getElem?_eq_getElem oM,<-h1]
 .rw[List.getElem?_eq_getElem oM,<-h1]
theorem Oe(x:NmQ×List ByteArray)(r:List (NmQ×List ByteArray))(ih:jZ r):jZ (x::r):=by
 intro H pw po pf i G s w1 w2 w3 w4 w l I e hC hO he hd hi hl e2;obtain⟨hn,c4,b3⟩:=NX _ _ _ _ _ hd;rw[List.length_cons]at hi e2;have h5:=hC.al;have i2:=hC.len;have j0:=hC.vl _ (mG c4);have g5:=u6 hO.g;have f1:=he;obtain⟨av,S,e4⟩:=f1;obtain⟨h1,h3,rfl⟩:=e4.slice;obtain⟨aa,ac,ea⟩:=hC.a.slice;have ar:I.all oC=true:=by rw[S];rfl
 have lr:I.length=5:=by rw[S];rfl
 have g7:ldC (some true) (some 5) 0 I=some (.agg I.toArray):=by rw[S];rfl
 obtain⟨H1,a9,n1,g1,hS⟩:=pushF H (bC I 1);have b9:H.next<=H1.low:=by rw[a9];exact lR
 obtain⟨b1,d5⟩:=hO.push (G1:=fun j=>G j\/j=H.next) hS (fun _ h=> .inl h) (fun j h=>h.imp id fun q=>oM);have a5:∀j,G j->H1.get j=H.get j:=fun j E=>hS.get j (hO.ap j E).1;have U:=hC.mono (H':=H1) (G':=fun j=>G j\/j=H.next) a5 (fun _ h=> .inl h);have b4:=w9 _ _ _ _ _ _ he a5 (fun j E=>(.inl E:G j\/j=H.next));have g9:(R4 (x::r) e).length=(R4 r e).length+((Q8 x.2).flatMap fun v=>R4 r (atV x.1 e v)).length:=by rw[R4,List.length_append]
 obtain⟨_,h2,H2,e6,g0,rfl,G2,u2,O,D,h9⟩:=ih H1 pw po pf (i+1) _ s w1 w2 w3 w4 w l I e U b1 b4 b3 oM oM oM;have n2:=D.stay.next;have a1:∀j,(G j\/j=H.next)->H2.get j=H1.get j:=fun j E=>by have:=b1.ap j E;exact D.but j this.1 this.2.1 this.2.2
 have J:=U.mono (H':=H2) (G':=G2) a1 D.sub;have e9:=w9 _ _ _ _ _ _ b4 a1 D.sub;have g2:=(a1 H.next (.inr rfl)).trans g1;obtain⟨a3,c3,e3⟩:=J.v.slice;obtain⟨y,nb,o,cs,own,h4,hx,h8,c6,hF,hg,i1,i3,e8,u,rfl,hu⟩:=(e3▸J.v).row (i:=i) oM;obtain rfl:x.2=y:=Option.some.inj (c4.symm.trans hx);have c0:=e8 0 oM;rw[Nat.add_zero]at c0;have uF:SlI H2 H2.next 1 (R1 stE) u x.2:=hu.sl fun j E=>(O.ap j E).1;obtain⟨cv,h6,H3,b2,b7,d2,s3⟩:=CX (α:=ByteArray) (R1 stE) H2 H2.next u x.2 lR uF oM;have n3:=s3.next;obtain⟨H4,b0,n4,-,s4⟩:=pushE H3 (bC [.string eB] 1);have d3:t7 H4 H3.next 1 (R1 stE) (sL H3.next 1 1) [eB]:=by rw[b0];exact t7.fresh rfl lR (D2.one rfl rfl)
 obtain⟨fs,b5⟩:=eY (frS x.2 eB [eB]);have hf:=fresh H4 H2.next u (sL H3.next 1 1) x.2 eB [eB] oM (uF.mono (fun j E=>by rw[s4.get j oM,s3.get j E]) lR iF) d3.sl oM (by decide) (by decide);rw[<-b5]at hf;obtain⟨v7,h7,H6,e1,b8,W,s6⟩:=(d2.keep s4).push1 (P:=prog) (t:=97) (by exact aH.2.2.2.2.2.2) ty9.1 ty9.2.1 ty9.2.2.1 oM oM (cs:=[.string fs]) (a:=fs) rfl rfl oM oM;have n6:=s6.next;rw[show x.2++[fs]=Q8 x.2 by rw[AN,b5]]at W;have c5:i4 H2.next H2 H6:=(s3.trans (s4.weaken n3)).trans (s6.weaken oM);obtain⟨X,d6⟩:=O.push (G1:=fun j=>G2 j\/j9 v7 j) c5 (fun _ h=> .inl h) (fun j E=>E.imp id fun q=>by have:=W.lt q;omega);have a2:∀j,G2 j->H6.get j=H2.get j:=fun j E=>c5.get j (O.ap j E).1;have d1:=J.mono (H':=H6) (G':=fun j=>G2 j\/j9 v7 j) a2 (fun _ h=> .inl h);have f0:=w9 _ _ _ _ _ _ e9 a2 (fun j E=>(.inl E:G2 j\/j9 v7 j));have g6:=(a2 H.next (D.sub _ (.inr rfl))).trans g2;obtain⟨a7,c7,e7⟩:=W.slice;have h0:(Q8 x.2).length=x.2.length+1:=by rw[Q8];simp
 have c9:=U.gw;have c8:=U.gf;have a6:=J.gw;have a8:H3.get pw=cE [w1,w2,w3,w4] 1:=(s3.get pw (O.ap pw J.iw).1).trans a6;have d0:H4.get pw=cE [w1,w2,w3,w4] 1:=(s4.get pw (oN ((O.ap pw J.iw).1))).trans a8;have e5:=(O.ap nb hF).1;have b6:=(s3.get nb e5).trans hg;have f2:=(s4.get nb oM).trans b6;have q1:∀a b c d:Value,[a,b,c,d][1]?=some b:=fun _ _ _ _=>rfl;have q2:∀a b c d:Value,[a,b,c,d][2]?=some c:=fun _ _ _ _=>rfl;have i0:(0:Int)<=i:=oM;have il:(i:Int)<s.vals.length:=oM;have g8:(i:Int).toNat=i:=tN i;have bi:decide ((i:Int)=s.attrs.length)=false:=decide_eq_false oM;have g3:((i:Int)+1)=((i+1:Nat):Int):=oM;have a4:∀Hx:d9,D3 prog .len [97] [v7] Hx=some (.int .i64 ((Q8 x.2).length:Int),none):=fun Hx=>by
  rw[e7];exact J1 aH trivial
 subst c6;rw[j8 Xm rfl _ sM];refine J30 ar a9.symm c9 q1 q2 ea e3 bi g1 g7 c8 g3 e6 g0 a6 g8 hg c0 b2 b7 a8 b6 b0.symm d0 f2 hf e1 b8 a4 @wrap_small ?_;refine l9 (F:=fun z=>Ret (u5 _ _ _ (inBlock 0 z)) _ _) (Bg x.1 x.2 r ih H6 pw po pf H.next i (fun j=>G2 j\/j9 v7 j) s w1 w2 w3 w4 u2 I e a7 c7 (Q8 x.2) d1 X.ap oM f0 (.inl (D.sub _ (.inr rfl))) g6 (by rw[<-e7];exact W.frz fun b hb=> .inr hb) oM oM b3 oM hn oM (l++R4 (x::r) e) (Q8 x.2).length _ _ ⟨0,_,u2,l++R4 r e,rfl,oM,rfl,rfl,rfl,rfl,e7,rfl,rfl,X,cd.refl _ _ _ _,(.inl rfl),by rw[List.drop_zero,R4,List.append_assoc],by rw[List.length_append];omega⟩) ?_;rintro o e' H8 ⟨ho,G8,w8,d4,d8,g4⟩;refine J1 ho ?_;exact ao9 g5 (fun b hb=>hO.own.lt hb) hS d5 d4 ((D.trans d6).trans d8) g4 b9
theorem pZ:∀r,jZ r
 |[]=>Od
 |x::r=>Oe x r (pZ r)
def P2:List (List ByteArray)->Nat
 |[]=>1
 |v::r=>(v.length+2)*P2 r
theorem Hq:∀r,1<=P2 r
 |[]=>Nat.le_refl 1
 |v::r=>Nat.mul_pos oM (Hq r)
theorem dY{α β:Type}(f:α->List β)(k:Nat)(l:List α)(h:∀x∈l,(f x).length=k):(l.flatMap f).length=l.length*k:=by
 induction l with
 |nil=>simp
 |cons x l z=>rw[List.flatMap_cons,List.length_append,h x sM,z (fun y u=>h y (by simp [u])),List.length_cons,Nat.add_mul];omega
theorem oq(v:List ByteArray):(Q8 v).length=v.length+1:=by rw[Q8];simp
theorem gl:∀(r:List (NmQ×List ByteArray))(e:EvD),(R4 r e).length=P2 (r.map (·.2))
 |[],e=>rfl
 |x::r,e=>by
  rw[R4,List.length_append,gl r e,dY _ _ _ (fun v _=>gl r (atV x.1 e v)),oq,List.map_cons,P2];rw[Nat.add_mul,Nat.add_mul,Nat.one_mul];omega
theorem xj(x:NmQ×List ByteArray)(r:List (NmQ×List ByteArray))(l:List EvD):(az x.1 (Q8 x.2) l).flatMap (R4 r)=l.flatMap (R4 (x::r)):=by
 induction l with
 |nil=>rfl
 |cons e l h=>
  rw[az]at h ⊢;rw[List.flatMap_cons,List.flatMap_append,h,List.flatMap_cons]
  congr 1
  rw[rl,List.flatMap_cons,R4,List.flatMap_map]
theorem mU:∀(r:List (NmQ×List ByteArray))(l:List EvD),l.length<=24->cU r l=if l.length*P2 (r.map (·.2))>24 then none else some (l.flatMap (R4 r))
 |[],l,h=>by
  rw[cU,List.map_nil,P2,Nat.mul_one,if_neg oM]
  congr 1
  have:(R4 []:EvD->List EvD)=fun e=>[e]:=by funext e;rfl
  rw[this];simp
 |x::r,l,h=>by
  rw[cU,List.map_cons,P2,<-Nat.mul_assoc];have u:(az x.1 (Q8 x.2) l).length=l.length*(x.2.length+2):=by rw[iJ,oq]
  have y:=Hq (r.map (·.2));by_cases z:l.length*(x.2.length+2)>24
  .rw[if_pos oM,if_pos (oN (Nat.mul_le_mul_left (l.length*(x.2.length+2)) y))]
  .rw[if_neg oM,mU r _ oM,u,xj]
def jp(s:SpD):List EvD:=(s.names++[zNm (Q4 s.names)]).flatMap (fun n=>R4 (s.attrs.zip s.vals) (Y4 n))++(s.texts++[dg (T7 s.texts)]).map bZ
theorem nM(s:SpD)(P:Nat)(z:P2 ((s.attrs.zip s.vals).map (·.2))=P):∀(y:List NmQ)(u:List EvD),dm s y u=if P>24 then(if y=[] then some u else none) else some (u++y.flatMap fun n=>R4 (s.attrs.zip s.vals) (Y4 n))
 |[],u=>by rw[dm,if_pos rfl,List.flatMap_nil,List.append_nil];split<;>rfl
 |n::r,u=>by
  rw[dm,mU _ _ sM,z];simp only[List.length_singleton,Nat.one_mul];by_cases h:P>24
  .rw[if_pos h,if_pos h,if_neg sM]
  .rw[if_neg h,if_neg h];simp only;rw[nM s P z r,if_neg h];simp
theorem jM:∀(u:List (List ByteArray))(n:Nat),(n*P2 u<=24->oO u n=(n*P2 u:Nat))/\(24<n*P2 u->24<oO u n)
 |[],n=>by rw[P2,Nat.mul_one,oO];exact⟨fun _=>rfl,fun h=>oM⟩
 |v::u,n=>by
  rw[P2,oO,<-Nat.mul_assoc];have y:=Hq u;have e:(n:Int)*((v.length:Int)+2)=((n*(v.length+2):Nat):Int):=sM;rw[e];have E:=Nat.mul_le_mul_left (n*(v.length+2)) y;obtain⟨z,D⟩:=jM u (n*(v.length+2));by_cases I:n*(v.length+2)<=25
  .have:min ((n*(v.length+2):Nat):Int) 25=((n*(v.length+2):Nat):Int):=oM;rw[this];exact⟨z,D⟩
  .have:min ((n*(v.length+2):Nat):Int) 25=((25:Nat):Int):=oM;rw[this];exact⟨fun q=>oM,fun _=>(jM u 25).2 oM⟩
theorem kS(s:SpD)(W:s.vals.length=s.attrs.length):S8 s=if 24<kn s then none else some (jp s):=by
 have E:(s.attrs.zip s.vals).map (·.2)=s.vals:=List.map_snd_zip oM;obtain⟨P,u⟩:=eY (P2 s.vals);have y:=nM s P (by rw[E,u]) (s.names++[zNm (Q4 s.names)]) [];obtain⟨c1,c2⟩:=jM s.vals (s.names.length+1);rw[<-u]at c1 c2;have I:((s.names.length+1:Nat):Int)=(s.names.length:Int)+1:=oM;rw[I]at c1 c2;have U:=Hq s.vals;rw[<-u]at U;have S:P<=(s.names.length+1)*P:=by rw[Nat.add_mul];omega
 rw[S8,y];by_cases z:P>24
 .rw[if_pos z,if_neg sM];have:=c2 oM;rw[if_pos (by unfold kn;omega)]
 .rw[if_neg z];have h:((s.names++[zNm (Q4 s.names)]).flatMap (fun n=>R4 (s.attrs.zip s.vals) (Y4 n))).length=(s.names.length+1)*P:=by
   rw[dY _ P _ (fun n _=>by rw[gl,E,u])];simp
  simp only[List.nil_append,List.length_append,List.length_map,List.length_singleton,h];by_cases O:(s.names.length+1)*P<=24
  .have:=c1 O;have J:kn s=(((s.names.length+1)*P+(s.texts.length+1):Nat):Int):=by unfold kn;rw[this];omega
   rw[J];by_cases D:(s.names.length+1)*P+(s.texts.length+1)>24
   .rw[if_pos D,if_pos oM]
   .rw[if_neg D,if_neg oM];rfl
  .have:=c2 oM;rw[if_pos oM,if_pos (by unfold kn;omega)]
theorem SpO.vals{H:d9}{lo:Nat}{O:Nat->Prop}{s:SpD}{w1 w2 w3 w4:Value}{us:LV}(h:SpO H lo O s w1 w2 w3 w4 us){G:Nat->Prop}(y:∀w∈w3::us,∀b,j9 w b->G b):SlF H G 1 (VlF H G) w3 s.vals:=by
 obtain⟨cs,S,X⟩:=h.v;have e:=GJ X;subst e;have E:=h.len;rcases S with⟨J,h2,_⟩|⟨b,c,rfl,W,_,_⟩
 .exact .inl ⟨J,List.length_eq_zero_iff.1 oM⟩
 .refine .inr ⟨b,0,c,by rw[E],.inr ⟨cs,true,y (sL b cs.length c) (List.mem_cons_self ..) b ⟨_,_,rfl⟩,W,oM,fun i a z=>?_⟩⟩;have D:i<cs.length:=by rw[E];exact(gS z).1
  have I:cs[i]?=some cs[i]:=List.getElem?_eq_getElem D;refine⟨cs[i],?_,(h.u i _ a I z).frz fun b U=>y _ (by simp [mG I]) b U⟩;rw[Nat.zero_add,Nat.mul_one,List.drop_eq_getElem_cons D];rfl
theorem SpO.spr{H:d9}{lo:Nat}{O:Nat->Prop}{s:SpD}{w1 w2 w3 w4:Value}{us:LV}(h:SpO H lo O s w1 w2 w3 w4 us):SpR H H.next [w1,w2,w3,w4] s:=
 ⟨w1,w2,w3,w4,rfl,h.n.sl,h.a.sl,h.vals fun w u b y=>(h.lt b (h.o w (by simp only[List.mem_cons]at u ⊢;rcases u with q|q;exact .inr (.inr (.inl q));exact .inr (.inr (.inr (.inr q)))) b y)).2,h.t.sl⟩
theorem MT(H0:d9)(pw po pf:Nat)(E:Nat->Prop)(s:SpD)(w1 w2 w3 w4 w0:Value)(va:Option Addr)(ca:Nat)(u:List NmQ)(hC:su H0 E pw pf (xu pw po pf) s w1 w2 w3 w4)(X:∀j,E j->j<H0.next/\j≠po/\¬j9 w0 j) (c6:po<H0.next) (hv:SlF H0 E 2 (R1 nmE) (.slice va u.length ca) u) (c5:u.length<=1000) (z:List EvD):
  ∀kk e H2,(∃(j:Nat)(G:Nat->Prop)(w:Value)(l:List EvD),kk=u.length-j/\j<=u.length/\e.get 4=pT pw/\e.get 5=pT po/\e.get 6=pT pf/\e.get 24= .slice va u.length ca/\e.get 25=iV u.length/\e.get 26=iV j/\
    dI H2 po G w l/\cd po E w0 H0 G w H2/\l++((u.drop j).flatMap fun n=>R4 (s.attrs.zip s.vals) (Y4 n))=z/\z.length<=1000000)->
  u9 (LE prog O8 (.loop Fw) e H2) (fun o e H2=>o= .exit 0/\e.get 4=pT pw/\e.get 5=pT po/\∃(G:Nat->Prop)(w:Value),dI H2 po G w z/\cd po E w0 H0 G w H2):=by
 refine j7 _ _ ?_;rintro kk e H2 ⟨j,G,w,l,b9,I,f4,f5,f6,f24,f25,f26,hO,W,O,a2⟩;rcases b:decide ((j:Int)<u.length)with _|_
 .have a9:=dF b;have:u.drop j=[]:=dN oM;rw[this,List.flatMap_nil,List.append_nil]at O;refine J3 f25 f26 b ?_;exact l7 ⟨rfl,f4,f5,G,w,by rw[<-O];exact hO,W⟩
 have a9:=dT b;have fr:∀j,E j->H2.get j=H0.get j:=fun j I=>by have:=X j I;exact W.but j this.1 this.2.1 this.2.2
 have nx:=W.stay.next;have b4:∀j,E j->j<H2.next:=fun j I=>oN (X j I);obtain⟨n,nb,o,cs,own,b7,hx,b0,rfl,hF,hg,c3,a3,hc,rfl⟩:=hv.row (i:=j) oM;have b5:(j:Int).toNat=j:=tN j;rw[b0,List.flatMap_cons,<-List.append_assoc]at O;have gv:=(fr nb hF).trans hg;obtain⟨Ha,U,na,b2,-⟩:=pushE H2 (bC [.string eB,.string eB] 1);obtain⟨J,y⟩:=eY (Ha.put H2.next (bC (nmE n) 1));have n3:J.next=H2.next+1:=by rw[y,j5,na]
 have s3:i4 H2.next H2 J:=by rw[y,U];exact(i4.push lR).trans (i4.put lR)
 have g3:J.get H2.next=cE (nmE n) 1:=by rw[y];exact i8 oM
 obtain⟨a5,a7⟩:=hO.push (G1:=G) s3 (fun _ h=>h) (fun j h=> .inl h);have S:=hC.mono (H':=J) (G':=G) (fun j I=>(s3.get j (b4 j I)).trans (fr j I)) W.sub;have a4:=S.gf;have b1:EvF J G [iV 1,.string n.1,.string n.2,nS,.string eB] (Y4 n):=⟨_,rfl,.inl ⟨rfl,rfl⟩⟩
 have c4:=hC.len;have b8:=hC.al;have b6:l.length+(R4 (s.attrs.zip s.vals) (Y4 n)).length+((u.drop (j+1)).flatMap fun n=>R4 (s.attrs.zip s.vals) (Y4 n)).length=z.length:=by rw[<-O,List.length_append,List.length_append]
 obtain⟨_,h8,H8,D,a1,rfl,G8,w8,a6,a8,c0⟩:=pZ (s.attrs.zip s.vals) J pw po pf 0 G s w1 w2 w3 w4 w l _ (Y4 n) S a5 b1 rfl (by rw[List.length_zip];omega) oM (by show 0+_<=_;rw[List.length_zip];omega);have b3:ldC (some true) (some 2) 0 (nmE n)=some (.agg (nmE n).toArray):=rfl;have e0:((0:Nat):Int)=0:=rfl;rw[e0]at D;refine J17 f6 f24 f25 f26 b gv b5 a3 U.symm b2 y.symm g3 b3 a4 D a1 @wrap_small ?_;exact i6 (kk-1) oM ⟨j+1,G8,w8,_,oM,oM,f4,f5,f6,f24,f25,rfl,a6,(W.trans a7).trans a8,O,a2⟩
theorem MU(H0:d9)(po:Nat)(y:Nat->Prop)(w0:Value)(va:Option Addr)(ca:Nat)(ts:List ByteArray)(a2:∀j,y j->j<H0.next/\j≠po/\¬j9 w0 j) (b3:po<H0.next) (hv:SlF H0 y 1 (R1 stE) (.slice va ts.length ca) ts) (b2:ts.length<=1000) (u:List EvD):
  ∀kk e H2,(∃(j:Nat)(G:Nat->Prop)(w:Value)(l:List EvD),kk=ts.length-j/\j<=ts.length/\e.get 5=pT po/\e.get 41= .slice va ts.length ca/\e.get 42=iV ts.length/\e.get 43=iV j/\
    dI H2 po G w l/\cd po y w0 H0 G w H2/\l++(ts.drop j).map bZ=u/\u.length<=1000000)->
  u9 (LE prog O8 (.loop Fx) e H2) (fun o e H2=>o= .exit 2/\e.get 5=pT po/\∃(G:Nat->Prop)(w:Value),dI H2 po G w u/\cd po y w0 H0 G w H2):=by
 refine j7 _ _ ?_;rintro kk e H2 ⟨j,G,w,l,b0,hj,f5,f41,f42,f43,W,O,D,E⟩;rcases b:decide ((j:Int)<ts.length)with _|_
 .have a3:=dF b;have:ts.drop j=[]:=dN oM;rw[this,List.map_nil,List.append_nil]at D;refine J3 f42 f43 b ?_;exact l7 ⟨rfl,f5,G,w,by rw[<-D];exact W,O⟩
 have a3:=dT b;have fr:∀j,y j->H2.get j=H0.get j:=fun j hj=>by have:=a2 j hj;exact O.but j this.1 this.2.1 this.2.2
 have nx:=O.stay.next;obtain⟨x,nb,o,cs,own,a8,hx,a4,rfl,hF,hg,b1,a7,hc,rfl⟩:=hv.row (i:=j) oM;have c0:=hc 0 oM;rw[Nat.add_zero]at c0;have a5:(j:Int).toNat=j:=tN j;rw[a4,List.map_cons,List.append_cons]at D;have gv:=(fr nb hF).trans hg;have U:=W.g;obtain⟨J,I⟩:=eY ([iV 2,.string eB,.string eB,nS,.string x]:LV);have he:EvF H2 G J (bZ x):=⟨_,I,.inl ⟨rfl,rfl⟩⟩
 have a6:l.length+1+(ts.drop (j+1)).length=u.length:=by rw[<-D];simp;omega
 obtain⟨v',h',H3,r1,r2,g3,⟨a',c',e'⟩,X,a1⟩:=W.add he oM;obtain⟨z,h⟩:=eY (H2.push (bC J 5));rw[<-h]at r1 r2;have a9:z.get po=cE [w] 1:=by rw[h,j6 (u6 U)];exact U
 have cu:v'.cells.toList=[v']:=by rw[e'];rfl
 have ou:Value.oneCell' v'=true:=by rw[e'];rfl
 have S:bsA prog (some 51) H2 1 [(0,.agg #[iV 2,.string eB,.string eB,nS,.string x])]=some (sL H2.next 1 1,z):=by
  rw[h,I];simp only[C7,aG,C8];rfl
 refine J16 f5 f41 f42 f43 b gv a5 c0 U S r1 r2 g3 cu ou @wrap_small ?_;exact i6 (kk-1) oM ⟨j+1,G,v',_,oM,oM,f5,f41,f42,rfl,X,O.trans a1,D,E⟩
theorem ko{s:SpD}(h:¬24<kn s)(hl:s.vals.length=s.attrs.length):s.names.length<=24/\s.texts.length<=24/\s.attrs.length<=24/\(∀x∈s.vals,x.length<=24)/\(jp s).length<=24:=by
 obtain⟨c1,c2⟩:=jM s.vals (s.names.length+1);have I:((s.names.length+1:Nat):Int)=(s.names.length:Int)+1:=oM;rw[I]at c1 c2;have S:(s.attrs.zip s.vals).map (·.2)=s.vals:=List.map_snd_zip oM;have D:=Hq s.vals;have z:∀u:List (List ByteArray),u.length<=P2 u/\∀x∈u,x.length<=P2 u:=by
  intro u;induction u with
  |nil=>exact⟨Nat.zero_le _,fun x y=>by cases y⟩
  |cons v u E=>
   have D:=Hq u;rw[P2,List.length_cons];have W:v.length+2<=(v.length+2)*P2 u:=Nat.le_mul_of_pos_right _ D;have X:2*P2 u<=(v.length+2)*P2 u:=Nat.mul_le_mul_right _ oM;refine⟨by have:=E.1;omega,fun x y=>?_⟩;rcases List.mem_cons.1 y with rfl|y
   .omega
   .have:=E.2 x y;omega
 obtain⟨U,J⟩:=z s.vals;have O:(s.names.length+1)*P2 s.vals<=24:=by
  apply Classical.byContradiction;intro q;have:=c2 oM;apply h;unfold kn;omega
 have h3:P2 s.vals<=(s.names.length+1)*P2 s.vals:=by rw[Nat.add_mul];omega
 have h4:s.names.length+1<=(s.names.length+1)*P2 s.vals:=Nat.le_mul_of_pos_right _ D;have h5:=c1 O;have h6:(s.names.length+1)*P2 s.vals+s.texts.length+1<=24:=by unfold kn at h;omega
 refine⟨oM,oM,oM,fun x y=>by have:=J x y;omega,?_⟩;rw[jp,List.length_append,dY _ (P2 s.vals) _ (fun n _=>by rw[gl,S])];simp only[List.length_append,List.length_map,List.length_singleton];omega
theorem xr(l:List ByteArray):frS l eB []=dg (T7 l):=by
 have h:∀n,eB++dg n=dg n:=fun n=>by
  have u:=aX eB (dg n);exact oF (by rw[u];rfl)
 have y:frN l eB=T7 l:=by unfold frN T7;simp only[h]
 rw[frS,List.find?_nil];simp only[y,h]
theorem Be(H:d9)(lo k:Nat)(cs:LV)(q:Q)(p9:lo<=H.next)(hr:QR H lo k false cs q)(o7:OkD false q)(p8:nQ q<=1000):
  Ret (CL prog O8 31 [.agg cs.toArray] H) H (Oa H (spQ q)):=by
 obtain⟨s,hs⟩:=eY (spQ q);have X:=kS s (by rw[hs];exact(jX q).2.2.1);obtain⟨z1,z2,z3,z4,z5⟩:=jX q;rw[<-hs]at z1 z2 z3 z4 z5;rw[<-hs];have ac:cs.all oC=true:=F0 hr;have ldc:=M8 hr;have lc:=hr.len;rw[lc]at ldc;simp only[qSz,bF]at ldc lc;obtain⟨H1,f0,n1,g1,s1⟩:=pushF H (bC cs 1);have l1:H.next<=H1.low:=by rw[f0];exact lR
 obtain⟨H2,a8⟩:=eY (H1.push (bC cs 3));have n2:H2.next=H.next+2:=by rw[a8,i5,n1]
 have s2:i4 H.next H H2:=by rw[a8];exact s1.trans (i4.push oM)
 have o1:H.next<=H2.low:=by rw[a8];exact l1
 have d1:bsA prog (some 25) H1 1 [(0,.agg cs.toArray)]=some (sL H1.next 1 1,H2):=by
  rw[a8];cases k with
  |zero=>exact hr.elim
  |succ k=>obtain⟨_,_,_,_,rfl,_⟩:=hr.path;simp only[C7,X8,C8];rfl
 have o9:QsR H2 H2.next k false (sL H1.next 1 1) [q]:=by
  have hO:t7 H2 H1.next 3 (QR H2 H2.next k false) (sL H1.next 1 1) [q]:=by
   rw[a8];exact t7.fresh rfl lR (D2.one lc (by rw[<-a8];exact hr.mono (fun j u=>s2.get j oM) oM))
  exact hO.sl
 obtain⟨wv,h3,I,c0,d4,w1,w2,w3,w4,us,O,rfl,D,h8⟩:=NN H2 H2.next k _ [q] lR o9 (by rw[nL,nL];omega) sM;have m2:(fsL false [q]).foldl I9 ⟨[],[],[],[]⟩=s:=by rw[fsL,fsL,List.append_nil,uK q o7,hs]
 rw[m2]at D;have n3:=h8.next;obtain⟨a1,b1,e1⟩:=D.n.slice;obtain⟨a2,b2,e2⟩:=D.a.slice;obtain⟨a3,b3,e3⟩:=D.v.slice;obtain⟨a4,b4,e4⟩:=D.t.slice;obtain⟨E,J⟩:∃r,r=[w1,w2,w3,w4]:=eX;have ar:E.all oC=true:=by rw[J,e1,e2,e3,e4];rfl
 have lr:E.length=4:=by rw[J];rfl
 have l5:ldC (some true) (some 4) 0 E=some (.agg E.toArray):=by rw[J];rfl
 have q0:E[0]?=some w1:=by rw[J];rfl
 have q3:E[3]?=some w4:=by rw[J];rfl
 have j1:(#[w1,w2,w3,w4]:Array Value)=E.toArray:=by rw[J]
 rw[j1]at c0;obtain⟨zz,h5⟩:=eY ([nS,nS,nS,nS]:LV);have lz:zz.length=4:=by rw[h5];rfl
 have l8:splice zz 0 E=E:=w7 _ _ (by rw[lr,lz]);obtain⟨K3,b8,-,k1,-⟩:=pushE I (bC zz 1);obtain⟨S,b6⟩:=eY (K3.put I.next (bC E 1));have n4:S.next=I.next+1:=by rw[b6,j5,b8,i5]
 have c8:i4 I.next I S:=by rw[b6,b8];exact(i4.push lR).trans (i4.put lR)
 have g4:S.get I.next=cE E 1:=by rw[b6];exact i8 (by rw[b8,i5];omega)
 have e5:=(D.spr).mono (H':=S) (fun j u=>c8.get j u) lR;rw[<-J]at e5;have k7:=Da S I.next E s oM e5 oM oM (fun x hx=>by have:=z4 x hx;omega) oM;have p5:i4 H.next H S:=(s2.trans (h8.weaken oM)).trans (c8.weaken oM);have o3:H.next<=S.low:=((h8.weaken (show H.next<=H2.next from oM)).trans (c8.weaken oM)).low o1;rw[j8 ab0 rfl _ sM];rcases b:decide ((24:Int)<kn s)with _|_
 .have y:=dF b;rw[if_neg y]at X;obtain⟨y1,y4,y2,y3,y5⟩:=ko y z3;obtain⟨H5,c6⟩:=eY (S.push (bC [nS] 1));have n5:H5.next=I.next+2:=by rw[c6,i5,n4]
  obtain⟨H6,c7,-,m3,-⟩:=pushE H5 (bC [.nilFunc] 1);have n6:H6.next=I.next+3:=by rw[c7,i5,n5]
  obtain⟨W,b7⟩:=eY (H6.put H5.next (bC [xu I.next S.next H5.next] 1));have n7:W.next=I.next+3:=by rw[b7,j5,n6]
  have d0:i4 S.next S W:=by rw[b7,c7,c6];exact((i4.push lR).trans (i4.push (by rw[i5];omega))).trans (i4.put (by rw[i5];omega))
  have e8:=(d0.get I.next oM).trans g4;have m4:W.get H5.next=cE [xu I.next S.next H5.next] 1:=by rw[b7];exact i8 oM
  have m5:W.get S.next=cE [nS] 1:=by
   rw[b7,i9 oM,c7,j6 oM,c6];exact i7
  have p6:i4 I.next I W:=c8.trans (d0.weaken oM);have c3:SpO W H2.next O s w1 w2 w3 w4 us:=D.keep (fun j u=>p6.get j (D.lt j u).2) (fun _ h=>h) (fun b y=>by have:=D.lt b y;omega) lR;have inl:∀w∈w1::w2::w3::w4::us,∀b,j9 w b->H2.next<=b/\b<I.next:=fun w U b y=>D.lt b (D.o w U b y);have d8:=EN W W.next w1 s.names lR c3.n.sl oM;obtain⟨nm,g9⟩:=eY (zNm (Q4 s.names));rw[<-g9]at d8;obtain⟨v9,h9,H9,k3,d5,g0,a6⟩:=c3.n.push1F (P:=prog) (t:=95) (cs:=nmE nm) (a:=nm) (by exact pJ.2.2.2.2.2.2) cr.1 cr.2.1 cr.2.2.1 oM oM rfl rfl oM oM;obtain⟨H8,f1⟩:=eY (W.push (bC (nmE nm) 2));rw[<-f1]at k3 d5;have m6:H8.get I.next=cE E 1:=by rw[f1,j6 oM];exact e8
  have n9:=a6.next;have i3:bsA prog (some 48) W 1 [(0,.agg (nmE nm).toArray)]=some (sL W.next 1 1,H8):=by
   rw[f1];simp only[C7,cr,C8];rfl
  obtain⟨a9,c9,e9⟩:=g0.slice;have g7:∀Hx:d9,D3 prog .len [95] [v9] Hx=some (.int .i64 ((s.names++[nm]).length:Int),none):=fun Hx=>by
   rw[e9];exact J1 pJ trivial
  have h7:∀j,¬(H2.next<=j/\j<I.next)->¬j9 w1 j:=fun j u q=>u (inl w1 sM j q);have c5:∀j,j<W.next->¬j9 w1 j->H9.get j=W.get j:=a6.but;have j3:H9.get I.next=cE E 1:=(c5 _ oM (h7 _ oM)).trans e8;have m7:=(c5 H5.next oM (h7 _ oM)).trans m4;have m8:=(c5 S.next oM (h7 _ oM)).trans m5;have m0:∀(i:Nat)(w:Value),(w1::w2::w3::w4::us)[i]?=some w->i≠0->∀j,j9 w j->¬j9 w1 j:=fun i w U hi j u q=>D.ap i 0 w w1 U rfl hi j u q;have p4:∀w∈w1::w2::w3::w4::us,∀b,j9 w b->b<W.next:=fun w U b y=>oN (inl w U b y);obtain⟨G0,a5⟩:=eY (fun j=>(∃w∈w2::w3::us,j9 w j)\/j=I.next\/j=H5.next\/j9 v9 j:Nat->Prop);have e6:∀b,j9 v9 b->b<H9.next/\b≠S.next/\¬(I.next<=b/\b<W.next):=fun b y=>by
   have h1:=g0.lt y;rcases a6.new b y with r|r
   .have:=inl w1 sM b r;omega
   .omega
  have i1:∀w∈w2::w3::us,w∈w1::w2::w3::w4::us:=fun w U=>by
   simp only[List.mem_cons]at U ⊢;rcases U with h|h|h
   .exact .inr (.inl h)
   .exact .inr (.inr (.inl h))
   .exact .inr (.inr (.inr (.inr h)))
  have d3:∀j,G0 j->j<H9.next/\j≠S.next/\¬j9 (nS) j:=fun j u=>by
   rw[a5]at u;refine⟨?_,?_,A9 j⟩
   .rcases u with⟨w,U,u⟩|u|u|u
    .have:=inl w (i1 w U) j u;omega
    .omega
    .omega
    .exact(e6 j u).1
   .rcases u with⟨w,U,u⟩|u|u|u
    .have:=inl w (i1 w U) j u;omega
    .omega
    .omega
    .exact(e6 j u).2.1
  have i0:∀w∈w2::w3::w4::us,∀b,j9 w b->H9.get b=W.get b:=fun w U b y=>by
   have hm:w∈w1::w2::w3::w4::us:=List.mem_cons_of_mem _ U;obtain⟨i,hi⟩:=List.mem_iff_getElem?.1 U;exact c5 b (p4 w hm b y) (m0 (i+1) w hi oM b y)
  have o8:SlF H9 G0 2 (R1 nmE) w2 s.attrs:=(c3.a.same (i0 w2 sM)).frz fun b y=>by rw[a5];exact .inl ⟨w2,by simp,y⟩
  have p0:SlF H9 G0 1 (VlF H9 G0) w3 s.vals:=by
   have h0:=c3.vals (G:=fun j=>∃w∈w3::us,j9 w j) (fun w U b y=>⟨w,U,y⟩);have up:∀j,(∃w∈w3::us,j9 w j)->G0 j:=fun j⟨w,U,u⟩=>by rw[a5];exact .inl ⟨w,List.mem_cons_of_mem _ U,u⟩
   have sm:∀j,(∃w∈w3::us,j9 w j)->H9.get j=W.get j:=fun j⟨w,U,u⟩=>i0 w (by
    rcases List.mem_cons.1 U with h|h
    .simp [h]
    .simp [h]) j u
   exact h0.mono sm up fun _ _ h=>h.mono sm up
  have n8:su H9 G0 I.next H5.next (xu I.next S.next H5.next) s w1 w2 w3 w4:=⟨by rw[j3,J],m7,by rw[a5];exact .inr (.inl rfl),by rw[a5];exact .inr (.inr (.inl rfl)),o8,p0,z3,oM,fun x hx=>by have:=y3 x hx;omega⟩
  have o0:dI H9 S.next G0 (nS) []:=⟨m8,t7.nil,d3⟩
  have o5:((s.names++[nm]).flatMap fun n=>R4 (s.attrs.zip s.vals) (Y4 n)).length<=24:=by
   rw[g9];have:=z5;have:=y5;rw[jp,List.length_append]at this;omega
  refine J30 ac f0.symm g1 ldc d1 c0 d4 h5.symm b8.symm k1 lr lz ar l8 b6.symm g4 l5 k7 b c6.symm c7.symm m3 b7.symm e8 q0 d8 i3 m6 k3 (aI d5 g7) ?_;refine l9 (F:=fun z=>Ret (u5 _ _ _ (u7 (inBlock 0 z) _)) _ _) (MT H9 I.next S.next H5.next G0 s w1 w2 w3 w4 (nS) a9 c9 (s.names++[nm]) n8 d3 oM (by rw[<-e9];exact g0.frz fun b y=>by rw[a5];exact .inr (.inr (.inr y))) (by simp;omega) ((s.names++[nm]).flatMap fun n=>R4 (s.attrs.zip s.vals) (Y4 n)) (s.names++[nm]).length _ _ ⟨0,G0,nS,[],rfl,oM,rfl,rfl,rfl,e9,rfl,rfl,o0,cd.refl _ _ _ _,rfl,oM⟩) ?_;rintro o e' HA ⟨ho,k4,k5,GA,wA,b9,b5⟩;have nA:=b5.stay.next;have j2:∀j,j<H9.next->j≠S.next->HA.get j=H9.get j:=fun j u h=>b5.but j u h (A9 j);have k0:HA.get I.next=cE E 1:=(j2 _ oM oM).trans j3;have j4:=b9.g;have l4:∀b,j9 w4 b->H2.next<=b/\b<I.next:=fun b y=>inl w4 sM b y;have k2:t7 HA H2.next 1 (R1 stE) w4 s.texts:=(c3.t.same (i0 w4 sM)).same fun b y=>j2 b (oN (l4 b y)) (oN (l4 b y));have g5:=fresh HA HA.next w4 (nS) s.texts eB [] lR k2.sl (ig ..) oM (by decide) (by decide);rw[xr]at g5;obtain⟨fs,k8⟩:=eY (dg (T7 s.texts));rw[<-k8]at g5;obtain⟨vC,hc,HC,k6,d6,g2,a7⟩:=k2.push1F (P:=prog) (t:=97) (cs:=[.string fs]) (a:=fs) (by exact aH.2.2.2.2.2.2) ty9.1 ty9.2.1 ty9.2.2.1 oM oM rfl rfl oM oM;obtain⟨HB,f2⟩:=eY (HA.push (bC [.string fs] 1));rw[<-f2]at k6 d6;have m9:HB.get I.next=cE E 1:=by rw[f2,j6 oM];exact k0
  have nC:=a7.next;have l3:=u6 j4;have h6:∀j,GA j->¬j9 w4 j:=fun j u q=>by
   have h4:=l4 j q;rcases b5.new j u with r|r
   .rw[a5]at r;rcases r with⟨w,U,r⟩|r|r|r
    .obtain⟨i,hi⟩:=List.mem_iff_getElem?.1 (i1 w U);by_cases k9:i=3
     .subst k9;have:w=w4:=(Option.some.inj hi).symm;subst this;obtain⟨i2,g6⟩:=List.mem_iff_getElem?.1 U;rcases i2 with _|_|i2
      .exact D.ap 1 3 w2 w rfl rfl oM j (by rw[show w2=w from Option.some.inj g6];exact r) q
      .exact D.ap 2 3 w3 w rfl rfl oM j (by rw[show w3=w from Option.some.inj g6];exact r) q
      .exact D.ap (i2+4) 3 w w g6 rfl oM j r q
     .exact D.ap i 3 w w4 hi rfl k9 j r q
    .omega
    .omega
    .rcases a6.new j r with r|r
     .exact D.ap 0 3 w1 w4 rfl rfl oM j r q
     .omega
   .omega
  have e7:∀j,j<HA.next->¬j9 w4 j->HC.get j=HA.get j:=a7.but;have c4:∀b,j9 wA b->H9.next<=b/\b<HA.next:=fun b y=>by
   have h1:=b9.own.lt y;rcases b5.neww b y with r|r
   .exact(A9 b r).elim
   .omega
  have p7:∀b,j9 vC b->b<HC.next/\b≠S.next/\¬j9 wA b:=fun b y=>by
   have h1:=g2.lt y;refine⟨h1.2,?_,fun q=>?_⟩
   .rcases a7.new b y with r|r
    .have:=l4 b r;omega
    .omega
   .have h2:=c4 b q;rcases a7.new b y with r|r
    .have:=l4 b r;omega
    .omega
  have d2:dI HC S.next (fun j=>GA j\/j9 vC j) wA ((s.names++[nm]).flatMap fun n=>R4 (s.attrs.zip s.vals) (Y4 n)):=by
   refine⟨(e7 _ l3 (fun q=>by have:=l4 _ q;omega)).trans j4,(b9.own.same fun b y=>e7 b (c4 b y).2 (fun q=>by have:=l4 b q;have:=c4 b y;omega)).imp fun cs a h=>w9 _ _ _ _ _ _ h (fun j u=>e7 j (b9.ap j u).1 (h6 j u)) (fun _ h=> .inl h),fun j u=>?_⟩;rcases u with u|u
   .have:=b9.ap j u;exact⟨oM,this.2⟩
   .exact p7 j u
  obtain⟨aC,cC,eC⟩:=g2.slice;have g8:∀Hx:d9,D3 prog .len [97] [vC] Hx=some (.int .i64 ((s.texts++[fs]).length:Int),none):=fun Hx=>by
   rw[eC];exact J1 aH trivial
  have j0:bsA prog (some 9) HA 1 [(0,.string fs)]=some (sL HA.next 1 1,HB):=by
   rw[f2];simp only[C7,ty9,C8];rfl
  have m1:((s.names++[nm]).flatMap fun n=>R4 (s.attrs.zip s.vals) (Y4 n))++(s.texts++[fs]).map bZ=jp s:=by rw[jp,g9,k8]
  refine J10 ho k4 k0 q3 g5 j0 m9 k6 d6 g8 ?_;refine l9 (F:=fun z=>Ret (u5 _ _ _ (u7 (inBlock 2 z) _)) _ _) (MU HC S.next (fun j=>GA j\/j9 vC j) wA aC cC (s.texts++[fs]) d2.ap oM (by rw[<-eC];exact g2.frz fun b y=> .inr y) (by simp;omega) (jp s) (s.texts++[fs]).length _ _ ⟨0,_,wA,_,rfl,oM,k5,eC,rfl,rfl,d2,cd.refl _ _ _ _,m1,oM⟩) ?_;rintro o2 e2 HD ⟨o6,p3,GD,wD,b0,g3⟩;have n0:=b0.g;have nD:=g3.stay.next;have l6:i4 H.next H HD:=((((p5.trans (d0.weaken oM)).trans (a6.stay.weaken oM)).trans (b5.stay.weaken oM)).trans (a7.stay.weaken oM)).trans (g3.stay.weaken oM);have o4:H.next<=HD.low:=(((((d0.weaken (show H.next<=S.next from oM)).trans (a6.stay.weaken oM)).trans (b5.stay.weaken oM)).trans (a7.stay.weaken oM)).trans (g3.stay.weaken oM)).low o3;refine J3 o6 p3 n0 ?_;refine ce (fun hc=>?_) ⟨_,_,rfl,.inr ⟨_,X,rfl,SlF.mono (b0.own.frz fun b y=>(b0.own.lt y).2) (fun _ _=>rfl) (fun j u=>u) (fun _ _ h=>w9 _ _ _ _ _ _ h (fun _ _=>rfl) fun j u=>(b0.ap j u).1)⟩,l6.ret o4⟩;obtain⟨da,dc,ed⟩:=b0.own.slice;obtain⟨u1,u2⟩:=au b0.own (by rw[ed]at hc ⊢;exact hc);exact⟨_,_,rfl,.inr ⟨_,X,rfl,by rw[u1,u2];exact .inl ⟨rfl,rfl⟩⟩,i4.refl _ _⟩
 .have y:=dT b;rw[if_pos y]at X;refine J19 ac f0.symm g1 ldc d1 c0 d4 h5.symm b8.symm k1 lr lz ar l8 b6.symm g4 l5 k7 b ?_;exact⟨_,none,H,rfl,rfl,_,_,rfl,.inl ⟨X,rfl,rfl⟩,i4.refl _ _⟩
structure ReD where
 strat:StD
 labels:List EvD
 sorts:List SoD
 size:List Int
 how:List (Int×Int×Int)
def knB(n:Nat)(k:Int):Bool:=decide (0<=k)&&decide (k<n)
def iH(so:List SoD)(kind f n:Int):Bool:=knB so.length f&&knB so.length n&&(!decide (kind=2)||(decide (f=0)&& !((so.getD n.toNat (false,false,eB)).2.1)))
theorem vD(H:d9)(y:Nat)(h:LV)(own:Bool)(sz:Nat)(D:H.get y=some (.cells h own sz))(sa:Option Addr)(n c:Nat)(z:h[9]?=some (.slice sa n c))(k:Int):CL prog O8 70 [pT y,iV k] H=some (.bool (knB n k),none):=by
 have u:d9.get ⟨H.bs,H.next⟩ y=some (.cells h own sz):=D;rw[j8 ad8 rfl _ sM,knB];rcases b:decide ((0:Int)<=k)with _|_
 .exact J1 b trivial
 .exact J3 b u z trivial
theorem GG(H:d9)(rb:Nat)(I:LV)(own:Bool)(sz:Nat)(hg:H.get rb=some (.cells I own sz))(z:List SoD)(v:Value)(hv:SlI H H.next 3 (R1 soE) v z)(h9:I[9]?=some v)(el:LV)(e:EvD)(hl:el.length=5)(S:el.all oC=true)(O:el[0]?=some (.int .i64 e.kind))(f n:Int):
  CL prog O8 40 [pT rb,.agg el.toArray,iV f,iV n] H=some (.bool (iH z e.kind f n),none):=by
 obtain⟨sa,c,rfl⟩:=hv.slice;obtain⟨H1,h,-,J,hS⟩:=pushF H (bC el 1);have a3:H.next<=H1.low:=by rw[h];exact lR
 have U:=(hS.get rb (u6 hg)).trans hg;have u:=vD H1 rb I own sz U sa z.length c h9 f;have E:=vD H1 rb I own sz U sa z.length c h9 n;rw[j8 ab7 rfl _ sM,iH];rcases b:decide (e.kind=2)with _|_
 .rcases X:knB z.length f with _|_
  .rw[X]at u;exact J6 S h.symm J O b u trivial
  .rw[X]at u;rcases W:knB z.length n with _|_
   .rw[W]at E;exact J7 S h.symm J O b u E trivial
   .rw[W]at E;exact J7 S h.symm J O b u E trivial
 .rcases X:knB z.length f with _|_
  .rw[X]at u;exact J6 S h.symm J O b u trivial
  .rw[X]at u;rcases W:knB z.length n with _|_
   .rw[W]at E;exact J7 S h.symm J O b u E trivial
   .have D:=W;simp only[knB,Bool.and_eq_true,decide_eq_true_eq]at D;rw[W]at E;rcases b3:decide (f=0)with _|_
    .exact J8 S h.symm J O b u E b3 trivial
    .have hn:(n.toNat:Int)=n:=Int.toNat_of_nonneg D.1;have a2:n.toNat<z.length:=oM;obtain⟨y,nb,o,cs,ow,a5,hx,hd,e0,hF,a1,a6,a4,hc,rfl⟩:=hv.row (i:=n.toNat) a2;subst e0;have c1:=hc 1 oM;have gn:=(hS.get nb hF).trans a1;have hy:(z.getD n.toNat (false,false,eB)).2.1=y.2.1:=by rw[List.getD_eq_getElem?_getD,hx];rfl
     have y1:(soE y)[1]?=some (.bool y.2.1):=rfl;rw[y1]at c1;have p0:(0:Int)<=n:=D.1;have p1:n<z.length:=D.2;exact J13 S h.symm J O b u E b3 U h9 gn c1 hy trivial
def mx2(a b:Int):Int:=if a<b then b else a
def mxL:List Int->Int
 |[]=>0
 |x::l=>l.foldl mx2 x
theorem Bn(H0:d9)(O:Option Addr)(I:Nat)(l:List Int)(hv:SlI H0 H0.next 1 (R1 inE) (.slice O l.length I) l)(hn:l.length<=100000)(r:Int):
  ∀D e H2,(∃(i:Nat)(m:Int),D=l.length-i/\1<=i/\i<=l.length/\e.get 0= .slice O l.length I/\e.get 3=iV m/\e.get 4=iV i/\H2=H0/\(l.drop i).foldl mx2 m=r)->
  u9 (LE prog O8 (.loop FS) e H2) (fun o e H2=>H2=H0/\o= .exit 0/\e.get 3=iV r):=by
 refine j7 _ _ ?_;rintro D e H2 ⟨i,m,hk,X,hi,u,f3,f4,rfl,h⟩;rcases b:decide ((i:Int)<l.length)with _|_
 .have z:=dF b;have:l.drop i=[]:=dN oM;rw[this,List.foldl_nil]at h;refine J3 u f4 b ?_;exact l7 ⟨rfl,rfl,by rw[<-h];exact f3⟩
 have z:=dT b;obtain⟨y,nb,o,cs,own,el,hx,U,rfl,a2,W,a1,J,S,rfl⟩:=hv.row (i:=i) oM;have nt:(i:Int).toNat=i:=tN i;have E:=S 0 oM;rw[Nat.add_zero]at E;rw[U,List.foldl_cons]at h;have hm:∀Hx,D3 prog .max [3,3] [iV m,iV y] Hx=some (.int .i64 (mx2 m y),none):=fun Hx=>by
  simp [D3,fN,mx2]
 refine J9 u f3 f4 b W nt E hm @wrap_small ?_;exact i6 (D-1) oM ⟨i+1,mx2 m y,oM,oM,oM,u,rfl,rfl,rfl,h⟩
theorem XC(H:d9)(v:Value)(l:List Int)(u:SlI H H.next 1 (R1 inE) v l)(E:1<=l.length)(hn:l.length<=100000):CL prog O8 60 [v] H=some (.int .i64 (mxL l),none):=by
 obtain⟨va,S,rfl⟩:=u.slice;obtain⟨y,O,o,cs,own,el,J,hd,rfl,a2,hg,a1,I,hc,rfl⟩:=u.row (i:=0) oM;have D:=hc 0 oM;simp only[Nat.zero_mul,Nat.add_zero]at D;have b:decide ((l.length:Int)<1)=false:=decide_eq_false oM;have h:d9.get ⟨H.bs,H.next⟩ O=some (.cells cs own 1):=hg;have U:mxL l=(l.drop 1).foldl mx2 y:=by
  cases l with
  |nil=>simp at E
  |cons x l=>simp at J;rw[<-J];rfl
 rw[j8 ac8 rfl _ sM];refine J3 b h D ?_;refine l9 (F:=fun z=>u5 _ _ _ (u7 (inBlock 0 z) _)=_) (Bn ⟨H.bs,H.next⟩ (some ⟨O,o,none⟩) S l (u.mono (fun _ _=>rfl) lR iF) hn (mxL l) (l.length-1) _ _ ⟨1,y,rfl,lR,E,rfl,rfl,rfl,rfl,U.symm⟩) ?_;rintro o' e' H' ⟨X,ho,W⟩;exact J3 ho X W trivial
theorem Nr(H:d9)(z:Nat)(h:LV)(own:Bool)(sz:Nat)(J:H.get z=some (.cells h own sz))(v:Value)(l:List Int)(U:SlI H H.next 1 (R1 inE) v l)(u:h[10]?=some v)(D:1<=l.length)(S:l.length<=100000)(size:Int)(E:0<=mxL l)(I:mxL l<=1000):
  CL prog O8 33 [pT z,iV size] H=some (.bool (decide (size<=2*mxL l+1)),none):=by
 have O:=XC ⟨H.bs,H.next⟩ v l (U.mono (fun _ _=>rfl) lR iF) D S;have y:d9.get ⟨H.bs,H.next⟩ z=some (.cells h own sz):=J;rw[j8 ab2 rfl _ sM];exact J4 y u O @wrap_small trivial
theorem tv(H:d9)(h:LV)(D:List SoD)(v:Value)(hv:SlI H H.next 3 (R1 soE) v D)(hl:h.length=12)(X:h.all oC=true)(W:h[9]?=some v)(hn:D.length<=1000)(x:SoD):
  CL prog O8 17 [.agg h.toArray,.agg (soE x).toArray] H=some (.int .i64 (ixG (fun y=>fo x y) D 0),none):=by
 obtain⟨O,z,J,-⟩:=pushF H (bC h 1);obtain⟨H2,u⟩:=eY (O.push (bC (soE x) 1));have E:i4 H.next H H2:=by rw[u,z];exact(i4.first H _).trans (i4.push (by rw[i5];exact Nat.le_succ _))
 have S:H2.get H.next=cE h 1:=by rw[u,j6 oM,z];exact i7
 have U:H2.get (H.next+1)=cE (soE x) 1:=by rw[u,<-J];exact i7
 have I:H.next<=H2.low:=by rw[u,z];exact lR
 have hr:ldC (some true) (some 3) 0 (soE x)=some (.agg (soE x).toArray):=rfl;have hf:=AL H2 H.next v D x (oN (E.next)) (hv.mono (fun j hj=>E.get j hj) lR iF) oM;rw[j8 aa6 rfl _ sM];exact J9 X z.symm J u.symm S U W hr hf trivial
structure R0(Rp Rt:LV->Q->Prop)(H:d9)(rb lw:Nat)(G:Nat->Prop)(r:ReD)(rs:LV)(vl w1 w2 w3:Value):Prop where
 g:H.get rb=cE (rs++[vl,w1,w2,w3]) 1
 st:StF H G Rp Rt rs r.strat
 lb:SlF H G 5 (EvF H G) vl r.labels
 so:t7 H lw 3 (R1 soE) w1 r.sorts
 sz:t7 H lw 1 (R1 inE) w2 r.size
 ho:t7 H lw 3 (R1 hoE) w3 r.how
 ap:aJ [w1,w2,w3]
 fr:∀j,G j->j<H.next/\j≠rb/\∀w∈ [w1,w2,w3],¬j9 w j
 nb:lw<=rb/\∀w∈ [w1,w2,w3],¬j9 w rb
structure Z1(rb lw:Nat)(W0:LV)(H0:d9)(W:LV)(H:d9):Prop where
 but:∀j,j<H0.next->j≠rb->(∀w∈W0,¬j9 w j)->H.get j=H0.get j
 new:∀b,(∃w∈W,j9 w b)->(∃w∈W0,j9 w b)\/H0.next<=b
 stay:i4 lw H0 H
theorem Z1.refl(rb lw:Nat)(W:LV)(H:d9):Z1 rb lw W H W H:=⟨fun _ _ _ _=>rfl,fun _ h=> .inl h,i4.refl _ _⟩
theorem Z1.trans{rb lw:Nat}{y z D:LV}{H0 H1 H2:d9}(h:Z1 rb lw y H0 z H1)(k:Z1 rb lw z H1 D H2):Z1 rb lw y H0 D H2:=by
 have W:=h.stay.next;refine⟨fun j O E I=>?_,fun b J=>?_,h.stay.trans k.stay⟩
 .rw[k.but j oM E (fun w S q=>by
   rcases h.new j ⟨w,S,q⟩with⟨U,u,r⟩|r
   .exact I U u r
   .omega),h.but j O E I]
 .rcases k.new b J with q|q
  .exact h.new b q
  .exact .inr oM
theorem Z1.of{rb lw:Nat}{W:LV}{H H1:d9}(u:i4 H.next H H1)(h:lw<=H.next):Z1 rb lw W H W H1:=⟨fun j y _ _=>u.get j y,fun _ h=> .inl h,u.weaken h⟩
section
variable{Rp Rt:List Value->Q->Prop}{H H1:d9}{rb lw:Nat}{G:Nat->Prop}{r:ReD}{rs:List Value}{vl w1 w2 w3:Value}
theorem R0.inl(h:R0 Rp Rt H rb lw G r rs vl w1 w2 w3){w:Value}(z:w∈ [w1,w2,w3]){b:Nat}(u:j9 w b):lw<=b/\b≠rb/\b<H.next:=by
 have y:b≠rb:=fun q=>h.nb.2 w z (q▸u);simp only[List.mem_cons,List.not_mem_nil,or_false]at z;rcases z with rfl|rfl|rfl
 .exact⟨(h.so.lt u).1,y,(h.so.lt u).2⟩
 .exact⟨(h.sz.lt u).1,y,(h.sz.lt u).2⟩
 .exact⟨(h.ho.lt u).1,y,(h.ho.lt u).2⟩
theorem R0.rsl(h:R0 Rp Rt H rb lw G r rs vl w1 w2 w3):rs.length=8:=by
 obtain⟨z,D,E,y,rfl,_,_,_,u⟩:=h.st;have:=aV u;simp [this]
theorem R0.at_(h:R0 Rp Rt H rb lw G r rs vl w1 w2 w3):(rs++[vl,w1,w2,w3])[8]?=some vl/\(rs++[vl,w1,w2,w3])[9]?=some w1/\(rs++[vl,w1,w2,w3])[10]?=some w2/\(rs++[vl,w1,w2,w3])[11]?=some w3:=by
 have:=h.rsl;refine⟨?_,?_,?_,?_⟩<;>rw[List.getElem?_append_right oM,this]<;>rfl
theorem R0.keep(h:R0 Rp Rt H rb lw G r rs vl w1 w2 w3)(u:i4 H.next H H1):R0 Rp Rt H1 rb lw G r rs vl w1 w2 w3:=by
 have z:=u6 h.g;have E:=u.next;have D:∀j,G j->H1.get j=H.get j:=fun j y=>u.get j (h.fr j y).1;exact⟨(u.get rb z).trans h.g,h.st.mono D (fun _ h=>h) iF iF,h.lb.mono D (fun _ h=>h) (fun _ _ q=>w9 _ _ _ _ _ _ q D (fun _ h=>h)),h.so.keep u,h.sz.keep u,h.ho.keep u,h.ap,fun j y=>by have:=h.fr j y;exact⟨oM,this.2⟩,h.nb⟩
end
def aQ(r:ReD)(x:SoD)(size:Int)(how:Int×Int×Int):ReD×Bool:=
 if(r.sorts.any fun y=>fo x y) then(r,true) else if(decide (24<(r.sorts.length:Int))||decide (200<size)) then(r,false) else({r with sorts:=r.sorts++[x],size:=r.size++[size],how:=r.how++[how]},true)
def GN(Rp Rt:LV->Q->Prop)(rb lw:Nat)(G:Nat->Prop)(rs:LV)(vl w1 w2 w3:Value)(H:d9)(r':ReD)(b:Bool):Value->d9->Prop:=fun v H'=>v= .bool b/\∃x1 x2 x3,R0 Rp Rt H' rb lw G r' rs vl x1 x2 x3/\Z1 rb lw [w1,w2,w3] H [x1,x2,x3] H'
theorem Oc(Rp Rt:LV->Q->Prop)(H:d9)(rb lw:Nat)(G:Nat->Prop)(r:ReD)(rs:LV)(vl w1 w2 w3:Value)(hR:R0 Rp Rt H rb lw G r rs vl w1 w2 w3)(x:SoD)(size:Int)(how:Int×Int×Int)(k0:r.sorts.length<=1000)(l4:r.size.length<=1000)(l5:r.how.length<=1000):
  Ret (CL prog O8 62 [pT rb,.agg (soE x).toArray,iV size,.agg (hoE how).toArray] H) H (GN Rp Rt rb lw G rs vl w1 w2 w3 H (aQ r x size how).1 (aQ r x size how).2):=by
 obtain⟨H0,a5,n0,-⟩:=pushF H (bC (soE x) 1);obtain⟨H1,U⟩:=eY (H0.push (bC (hoE how) 1));have n1:H1.next=H.next+2:=by rw[U,i5,n0]
 have hS:i4 H.next H H1:=by rw[U,a5];exact(i4.first H _).trans (i4.push (by rw[i5];exact Nat.le_succ _))
 have g1:H1.get H.next=cE (soE x) 1:=by rw[U,j6 oM,a5];exact i7
 have g2:H1.get (H.next+1)=cE (hoE how) 1:=by rw[U,<-n0];exact i7
 have j4:H.next<=H1.low:=by rw[U,a5];exact lR
 have l8:=u6 hR.g;have u:=hR.keep hS;have a4:=u.g;have b6:=u.nb.1;obtain⟨q8,q9,g5,g6⟩:=u.at_;have a8:=hR.rsl;obtain⟨X,b4⟩:=eY (rs++[vl,w1,w2,w3]);rw[<-b4]at a4 q8 q9 g5 g6;have b7:ldC (some true) (some 3) 0 (soE x)=some (.agg (soE x).toArray):=rfl;have e8:ldC (some true) (some 3) 0 (hoE how)=some (.agg (hoE how).toArray):=rfl;have hh:=Xu H1 H1.next w1 r.sorts x lR u.so.sl oM;rw[j8 ad0 rfl _ sM];rcases b:(r.sorts.any fun y=>fo x y)with _|_
 .rw[b]at hh;rcases b2:decide (24<(r.sorts.length:Int))with _|_
  .rcases b3:decide (200<size)with _|_
   .have ha:aQ r x size how=({r with sorts:=r.sorts++[x],size:=r.size++[size],how:=r.how++[how]},true):=by rw[aQ,b,b2,b3];rfl
    rw[ha];obtain⟨v1,i1,K2,e4,b8,b1,D⟩:=u.so.push1F (P:=prog) (t:=36) (cs:=soE x) (a:=x) (by exact NQ.2.2.2.2.2.2) yO.1 yO.2.1 yO.2.2.1 oM oM rfl rfl oM oM;obtain⟨K1,d3,-,-,s1⟩:=pushE H1 (bC (soE x) 3);rw[<-d3]at e4 b8;have m2:=D.next;have c9:∀j,j9 w1 j->¬j9 w2 j:=u.ap 0 1 w1 w2 rfl rfl oM;have d0:∀j,j9 w1 j->¬j9 w3 j:=u.ap 0 2 w1 w3 rfl rfl oM;have d1:∀j,j9 w2 j->¬j9 w3 j:=u.ap 1 2 w2 w3 rfl rfl oM;have l1:∀j,j9 w1 j->lw<=j/\j≠rb/\j<H1.next:=fun j W=>u.inl sM W;have l2:∀j,j9 w2 j->lw<=j/\j≠rb/\j<H1.next:=fun j W=>u.inl sM W;have l3:∀j,j9 w3 j->lw<=j/\j≠rb/\j<H1.next:=fun j W=>u.inl sM W;have g0:t7 K2 lw 1 (R1 inE) w2 r.size:=u.sz.same fun b z=>D.but b (l2 b z).2.2 (fun q=>c9 b q z);obtain⟨v2,i2,K4,e5,b9,b5,E⟩:=g0.push1F (P:=prog) (t:=29) (cs:=inE size) (a:=size) (by exact yL.2.2.2.2.2.2) ty3.1 ty3.2.1 ty3.2.2.1 oM oM rfl rfl oM oM;obtain⟨K3,d4,-,-,s3⟩:=pushE K2 (bC (inE size) 1);rw[<-d4]at e5 b9;have m4:=E.next;have e7:t7 K4 lw 3 (R1 hoE) w3 r.how:=(u.ho.same (H':=K2) fun b z=>D.but b (l3 b z).2.2 (fun q=>d0 b q z)).same fun b z=>E.but b (oN (l3 b z)) (fun q=>d1 b q z);obtain⟨v3,i3,K6,e6,c0,d6,S⟩:=e7.push1F (P:=prog) (t:=37) (cs:=hoE how) (a:=how) (by exact XW.2.2.2.2.2.2) yN.1 yN.2.1 yN.2.2.1 oM oM rfl rfl oM oM;obtain⟨K5,d5,-,-,s5⟩:=pushE K4 (bC (hoE how) 3);rw[<-d5]at e6 c0;have m6:=S.next;have k1:K1.get rb=cE X 1:=(s1.get rb oM).trans a4;have k2:K2.get rb=cE X 1:=(D.but rb oM (fun q=>by have:=l1 rb q;omega)).trans a4;have k3:K3.get rb=cE X 1:=(s3.get rb oM).trans k2;have k4:K4.get rb=cE X 1:=(E.but rb oM (fun q=>by have:=l2 rb q;omega)).trans k2;have k5:K5.get rb=cE X 1:=(s5.get rb oM).trans k4;have k6:K6.get rb=cE X 1:=(S.but rb oM (fun q=>by have:=l3 rb q;omega)).trans k4;have nH:∀w∈ [w1,w2,w3],¬j9 w (H.next+1):=fun w hw q=>oN (hR.inl hw q);have p1:=(s1.get (H.next+1) oM).trans g2;have p2:=(D.but (H.next+1) oM (nH w1 sM)).trans g2;have p3:=(s3.get (H.next+1) oM).trans p2;have p4:=(E.but (H.next+1) oM (nH w2 sM)).trans p2;obtain⟨a1,c1,e1⟩:=b1.slice;obtain⟨a2,c2,e2⟩:=b5.slice;obtain⟨a3,c3,e3⟩:=d6.slice;have h3:v1.cells.toList=[v1]:=by rw[e1];rfl
    have h9:Value.oneCell' v1=true:=by rw[e1];rfl
    have h4:v2.cells.toList=[v2]:=by rw[e2];rfl
    have i0:Value.oneCell' v2=true:=by rw[e2];rfl
    have h5:v3.cells.toList=[v3]:=by rw[e3];rfl
    have j0:Value.oneCell' v3=true:=by rw[e3];rfl
    have g3:X.length=12:=by rw[b4];simp [a8]
    obtain⟨I,c6⟩:=eY (rs++[vl,v1,w2,w3]);obtain⟨J,c7⟩:=eY (rs++[vl,v1,v2,w3]);obtain⟨a6,f0⟩:=eY (rs++[vl,v1,v2,v3]);have h6:I.length=12:=by rw[c6];simp [a8]
    have h7:J.length=12:=by rw[c7];simp [a8]
    have j1:splice X 9 [v1]=I:=by show X.set 9 v1=I;rw[b4,c6,List.set_append_right _ _ oM,a8];rfl
    have j2:splice I 10 [v2]=J:=by show I.set 10 v2=J;rw[c6,c7,List.set_append_right _ _ oM,a8];rfl
    have j3:splice J 11 [v3]=a6:=by show J.set 11 v3=a6;rw[c7,f0,List.set_append_right _ _ oM,a8];rfl
    obtain⟨K7,a9⟩:=eY (K6.put rb (bC I 1));have k7:K7.get rb=cE I 1:=by rw[a9];exact i8 oM
    have m7:K7.next=K6.next:=by rw[a9,j5]
    obtain⟨K8,b0⟩:=eY (K7.put rb (bC J 1));have k8:K8.get rb=cE J 1:=by rw[b0];exact i8 oM
    have m8:K8.next=K6.next:=by rw[b0,j5,m7]
    obtain⟨K9,a7⟩:=eY (K8.put rb (bC a6 1));have k9:K9.get rb=cE a6 1:=by rw[a7];exact i8 oM
    have m9:K9.next=K6.next:=by rw[a7,j5,m8]
    have g9:bsA prog (some 59) H1 1 [(0,.agg (soE x).toArray)]=some (sL H1.next 1 1,K1):=by
     rw[d3];simp only[C7,yO,C8];rfl
    have g8:bsA prog (some 3) K2 1 [(0,iV size)]=some (sL K2.next 1 1,K3):=by
     rw[d4];simp only[C7,ty3,C8];rfl
    have h0:bsA prog (some 56) K4 1 [(0,.agg (hoE how).toArray)]=some (sL K4.next 1 1,K5):=by
     rw[d5];simp only[C7,yN,C8];rfl
    have c4:∀Hx:d9,D3 prog .len [36] [w1] Hx=some (.int .i64 (r.sorts.length:Int),none):=fun Hx=>by
     obtain⟨aa,cc,ee⟩:=u.so.slice;rw[ee];exact J1 NQ trivial
    have e9:∀j,j≠rb->K9.get j=K6.get j:=fun j W=>by rw[a7,i9 (fun q=>W q.symm),b0,i9 (fun q=>W q.symm),a9,i9 (fun q=>W q.symm)]
    have d2:∀j,j<H1.next->j≠rb->(∀w∈ [w1,w2,w3],¬j9 w j)->K9.get j=H1.get j:=fun j W h1 h2=>by
     rw[e9 j h1,S.but j oM (h2 w3 sM),E.but j oM (h2 w2 sM),D.but j W (h2 w1 sM)]
    have g4:∀b,j9 v1 b->¬j9 w2 b/\¬j9 w3 b:=fun b z=>by
     rcases D.new b z with q|q
     .exact⟨c9 b q,d0 b q⟩
     .exact⟨fun r=>by have:=l2 b r;omega,fun r=>by have:=l3 b r;omega⟩
    have h8:∀b,j9 v2 b->¬j9 w3 b:=fun b z=>by
     rcases E.new b z with q|q
     .exact d1 b q
     .exact fun r=>oN (l3 b r)
    have d8:i4 lw H1 K9:=by
     rw[a7,b0,a9];exact(((((D.stay.weaken oM).trans (E.stay.weaken oM)).trans (S.stay.weaken oM)).trans (i4.put b6)).trans (i4.put b6)).trans (i4.put b6)
    have f1:t7 K9 lw 3 (R1 soE) v1 (r.sorts++[x]):=b1.same fun b z=>by
     have:=b1.lt z;have c5:b≠rb:=by
      rcases D.new b z with q|q
      .exact(l1 b q).2.1
      .omega
     rw[e9 b c5,S.but b oM (g4 b z).2,E.but b oM (g4 b z).1]
    have f2:t7 K9 lw 1 (R1 inE) v2 (r.size++[size]):=b5.same fun b z=>by
     have:=b5.lt z;have c5:b≠rb:=by
      rcases E.new b z with q|q
      .exact(l2 b q).2.1
      .omega
     rw[e9 b c5,S.but b oM (h8 b z)]
    have f3:t7 K9 lw 3 (R1 hoE) v3 (r.how++[how]):=d6.same fun b z=>e9 b (by
      rcases S.new b z with q|q
      .exact(l3 b q).2.1
      .omega)
    have nw:∀b,(∃w∈ [v1,v2,v3],j9 w b)->(∃w∈ [w1,w2,w3],j9 w b)\/H1.next<=b:=fun b⟨w,hw,z⟩=>by
     simp only[List.mem_cons,List.not_mem_nil,or_false]at hw;rcases hw with rfl|rfl|rfl
     .exact(D.new b z).imp (fun q=>⟨w1,by simp,q⟩) id
     .exact(E.new b z).imp (fun q=>⟨w2,by simp,q⟩) (fun q=>oM)
     .exact(S.new b z).imp (fun q=>⟨w3,by simp,q⟩) (fun q=>oM)
    have g7:aJ [v1,v2,v3]:=by
     have t1:aJ [v1,w2,w3]:=u.ap.set (k:=0) (v:=v1) (n:=H1.next) rfl D.new fun y hy b z=>(u.inl hy z).2.2;have t2:aJ [v1,v2,w3]:=t1.set (k:=1) (v:=v2) (n:=K2.next) rfl E.new fun y hy b z=>by
      simp only[List.mem_cons,List.not_mem_nil,or_false]at hy;rcases hy with rfl|rfl|rfl
      .exact(b1.lt z).2
      .have:=l2 b z;omega
      .have:=l3 b z;omega
     exact t2.set (k:=2) (v:=v3) (n:=K4.next) rfl S.new fun y hy b z=>by
      simp only[List.mem_cons,List.not_mem_nil,or_false]at hy;rcases hy with rfl|rfl|rfl
      .have:=b1.lt z;omega
      .exact(b5.lt z).2
      .have:=l3 b z;omega
    have sG:∀j,G j->K9.get j=H1.get j:=fun j W=>by have:=u.fr j W;exact d2 j this.1 this.2.1 this.2.2
    have O:R0 Rp Rt K9 rb lw G {r with sorts:=r.sorts++[x],size:=r.size++[size],how:=r.how++[how]} rs vl v1 v2 v3:=
     ⟨by rw[k9,f0],u.st.mono sG (fun _ h=>h) iF iF,u.lb.mono sG (fun _ h=>h) (fun _ _ q=>w9 _ _ _ _ _ _ q sG (fun _ h=>h)),f1,f2,f3,g7,fun j W=>by
      have h:=u.fr j W;refine⟨oM,h.2.1,fun w hw q=>?_⟩;rcases nw j ⟨w,hw,q⟩with⟨w',c8,r⟩|r
      .exact h.2.2 w' c8 r
      .omega,b6,fun w hw q=>by
      rcases nw rb ⟨w,hw,q⟩with⟨w',c8,r⟩|r
      .exact u.nb.2 w' c8 r
      .omega⟩
    refine J30 a5.symm n0 U.symm g1 g2 a4 q9 g5 g6 (aI b7 e8) (aI hh c4) (aI b2 b3) (aI g9 k1) (aI e4 b8) (aI k2 g8) (aI k3 p1) (aI p2 p3) (aI p4 e5) (aI b9 k4) (aI h0 k5) (aI e6 c0) (aI k6 h3) (aI h9 h4) (aI i0 h5) (aI j0 g3) (aI h6 h7) (aI j1 a9.symm) (aI k7 j2) (aI b0.symm k8) (aI j3 a7.symm) ?_;have l6:K9.low<=rb:=by rw[a7,A4];omega
    refine D7 (fun _ hl=>oM) ⟨rfl,v1,v2,v3,⟨O.g,O.st.mono (fun _ _=>rfl) (fun _ h=>h) iF iF,O.lb.mono (fun _ _=>rfl) (fun _ h=>h) (fun _ _ q=>w9 _ _ _ _ _ _ q (fun _ _=>rfl) (fun _ h=>h)),O.so.low _,O.sz.low _,O.ho.low _,O.ap,O.fr,O.nb⟩,fun j W h1 h2=>?_,fun b z=>(nw b z).imp id fun q=>oM,⟨?_,fun k hk q=>?_,fun j W=>?_⟩⟩
    .show K9.get j=H.get j;rw[d2 j oM h1 h2,hS.get j W]
    .show H.next<=K9.next;omega
    .have:=d8.lowAll k hk oM;show k<=min H.low K9.low;omega
    .show K9.get j=H.get j;rw[d8.get j W,hS.get j oM]
   .have ha:aQ r x size how=(r,false):=by rw[aQ,b,b2,b3];rfl
    rw[ha];obtain⟨a1,c1,e1⟩:=u.so.slice;rw[e1]at hh q9;refine J10 a5.symm n0 U.symm g1 a4 q9 b7 hh b2 b3 ?_;exact⟨_,none,H,rfl,rfl,rfl,w1,w2,w3,hR,Z1.refl _ _ _ _⟩
  .have ha:aQ r x size how=(r,false):=by rw[aQ,b,b2];rfl
   rw[ha];obtain⟨a1,c1,e1⟩:=u.so.slice;rw[e1]at hh q9;refine J9 a5.symm n0 U.symm g1 a4 q9 b7 hh b2 ?_;exact⟨_,none,H,rfl,rfl,rfl,w1,w2,w3,hR,Z1.refl _ _ _ _⟩
 .rw[b]at hh;have ha:aQ r x size how=(r,true):=by rw[aQ,b];rfl
  rw[ha];refine J8 a5.symm n0 U.symm g1 a4 q9 b7 hh ?_;exact⟨_,none,H,rfl,rfl,rfl,w1,w2,w3,hR,Z1.refl _ _ _ _⟩
theorem av9{Rp Rt:LV->Q->Prop}{H:d9}{E W:Nat}{G:Nat->Prop}{r:ReD}{S:LV}{vl w1 w2 w3:Value}(D:R0 Rp Rt H E W G r S vl w1 w2 w3)(x:SoD)(hl:r.sorts.length<=1000)(b0:W<=H.next):
  ∃v i K1 J K3,K1=H.push (bC (soE x) 3)/\K1.get E=cE (S++[vl,w1,w2,w3]) 1/\fb prog K1 [36,36] w1 (sL H.next 1 1)=dr v i/\i.getD K1=J/\J.get E=cE (S++[vl,w1,w2,w3]) 1/\K3=J.put E (bC (S++[vl,v,w2,w3]) 1)/\v.cells.toList=[v]/\Value.oneCell' v=true/\
   R0 Rp Rt K3 E W G {r with sorts:=r.sorts++[x],size:=r.size,how:=r.how} S vl v w2 w3/\Z1 E W [w1,w2,w3] H [v,w2,w3] K3/\J.next<=K3.next:=by
 have a5:=u6 D.g;obtain⟨v,i,J,ha,a8,hO,U⟩:=D.so.push1F (P:=prog) (t:=36) (cs:=soE x) (a:=x) (by exact NQ.2.2.2.2.2.2) yO.1 yO.2.1 yO.2.2.1 oM oM rfl rfl oM b0;have m2:=U.next;have O:w1∈ [w1,w2,w3]:=sM;obtain⟨a1,c1,e1⟩:=hO.slice;have k1:(H.push (bC (soE x) 3)).get E=cE (S++[vl,w1,w2,w3]) 1:=by rw[j6 a5];exact D.g
 have b1:¬j9 w1 E:=D.nb.2 _ O;have k2:J.get E=cE (S++[vl,w1,w2,w3]) 1:=(U.but E a5 b1).trans D.g;have e9:∀j,j≠E->(J.put E (bC (S++[vl,v,w2,w3]) 1)).get j=J.get j:=fun j I=>i9 (fun q=>I q.symm);have inl:∀{w:Value},w∈ [w1,w2,w3]->∀{b:Nat},j9 w b->W<=b/\b≠E/\b<H.next:=fun O b u=>D.inl O u;have d1:∀j,j9 w1 j->¬j9 w2 j/\¬j9 w3 j:=by
  have X:∀j,j9 w1 j->¬j9 w2 j:=D.ap 0 1 w1 w2 rfl rfl oM;have a2:∀j,j9 w1 j->¬j9 w3 j:=D.ap 0 2 w1 w3 rfl rfl oM;have a3:∀j,j9 w2 j->¬j9 w3 j:=D.ap 1 2 w2 w3 rfl rfl oM;intro j I;exact⟨fun h=>by first|exact X j I h|exact X j h I|exact a2 j h I,fun h=>by first|exact a2 j I h|exact a3 j I h|exact a3 j h I⟩
 have a6:∀b{w:Value},w∈ [w2,w3]->j9 w b->(J.put E (bC (S++[vl,v,w2,w3]) 1)).get b=H.get b:=fun b w O u=>by
  have a9:w∈ [w1,w2,w3]:=by
   simp only[List.mem_cons,List.not_mem_nil,or_false]at O;rcases O with h|h<;>rw[h]<;>simp
  have:=inl a9 u;rw[e9 b this.2.1,U.but b this.2.2 (fun q=>by
   simp only[List.mem_cons,List.not_mem_nil,or_false]at O;rcases O with rfl|rfl
   .exact(d1 b q).1 u
   .exact(d1 b q).2 u)]
 have f1:t7 (J.put E (bC (S++[vl,v,w2,w3]) 1)) W 3 (R1 soE) v (r.sorts++[x]):=hO.same fun b u=>e9 b (by
  rcases U.new b u with q|q
  .exact(inl O q).2.1
  .omega)
 have hv:∀b,j9 v b->(∃w∈ [w1,w2,w3],j9 w b)\/H.next<=b:=fun b u=>(U.new b u).imp (fun q=>⟨_,O,q⟩) id;have hk:∀w∈ [w1,w2,w3],∀b,j9 w b->(∃w∈ [w1,w2,w3],j9 w b)\/H.next<=b:=fun w O b u=> .inl ⟨w,O,u⟩;have nw:∀b,(∃w∈ [v,w2,w3],j9 w b)->(∃w∈ [w1,w2,w3],j9 w b)\/H.next<=b:=fun b⟨w,z,u⟩=>by
  simp only[List.mem_cons,List.not_mem_nil,or_false]at z;rcases z with h|h|h<;>rw[h]at u<;>first|exact hv b u|exact hk _ sM b u
 have a4:∀j,j<H.next->j≠E->(∀w∈ [w1,w2,w3],¬j9 w j)->(J.put E (bC (S++[vl,v,w2,w3]) 1)).get j=H.get j:=fun j I h1 h2=>by
  rw[e9 j h1,U.but j I (h2 _ O)]
 have sG:∀j,G j->(J.put E (bC (S++[vl,v,w2,w3]) 1)).get j=H.get j:=fun j I=>by have:=D.fr j I;exact a4 j this.1 this.2.1 this.2.2
 have a7:aJ [v,w2,w3]:=D.ap.set (k:=0) (v:=v) (n:=H.next) rfl U.new fun y hy b u=>(inl hy u).2.2;refine⟨v,i,_,J,_,rfl,k1,ha,a8,k2,rfl,by rw[e1];rfl,by rw[e1];rfl,⟨i8 (u6 k2),D.st.mono sG (fun _ h=>h) iF iF,D.lb.mono sG (fun _ h=>h) (fun _ _ q=>w9 _ _ _ _ _ _ q sG (fun _ h=>h)),f1,(D.sz.same fun b u=>a6 b sM u),(D.ho.same fun b u=>a6 b sM u),a7,fun j I=>?_,D.nb.1,fun w z q=>?_⟩,⟨a4,nw,(U.stay.weaken lR).trans (i4.put D.nb.1)⟩,by rw[j5];exact lR⟩
 .obtain⟨h1,h2,h3⟩:=D.fr j I;refine⟨by rw[j5];omega,h2,fun w z q=>?_⟩;rcases nw j ⟨w,z,q⟩with⟨w',z,q'⟩|q'
  .exact h3 w' z q'
  .omega
 .rcases nw E ⟨w,z,q⟩with⟨w',z,q'⟩|q'
  .exact D.nb.2 w' z q'
  .omega
theorem aw0{Rp Rt:LV->Q->Prop}{H:d9}{E W:Nat}{G:Nat->Prop}{r:ReD}{S:LV}{vl w1 w2 w3:Value}(D:R0 Rp Rt H E W G r S vl w1 w2 w3)(x:Int)(hl:r.size.length<=1000)(b0:W<=H.next):
  ∃v i K1 J K3,K1=H.push (bC (inE x) 1)/\K1.get E=cE (S++[vl,w1,w2,w3]) 1/\fb prog K1 [29,29] w2 (sL H.next 1 1)=dr v i/\i.getD K1=J/\J.get E=cE (S++[vl,w1,w2,w3]) 1/\K3=J.put E (bC (S++[vl,w1,v,w3]) 1)/\v.cells.toList=[v]/\Value.oneCell' v=true/\
   R0 Rp Rt K3 E W G {r with sorts:=r.sorts,size:=r.size++[x],how:=r.how} S vl w1 v w3/\Z1 E W [w1,w2,w3] H [w1,v,w3] K3/\J.next<=K3.next:=by
 have a5:=u6 D.g;obtain⟨v,i,J,ha,a8,hO,U⟩:=D.sz.push1F (P:=prog) (t:=29) (cs:=inE x) (a:=x) (by exact yL.2.2.2.2.2.2) ty3.1 ty3.2.1 ty3.2.2.1 oM oM rfl rfl oM b0;have m2:=U.next;have O:w2∈ [w1,w2,w3]:=sM;obtain⟨a1,c1,e1⟩:=hO.slice;have k1:(H.push (bC (inE x) 1)).get E=cE (S++[vl,w1,w2,w3]) 1:=by rw[j6 a5];exact D.g
 have b1:¬j9 w2 E:=D.nb.2 _ O;have k2:J.get E=cE (S++[vl,w1,w2,w3]) 1:=(U.but E a5 b1).trans D.g;have e9:∀j,j≠E->(J.put E (bC (S++[vl,w1,v,w3]) 1)).get j=J.get j:=fun j I=>i9 (fun q=>I q.symm);have inl:∀{w:Value},w∈ [w1,w2,w3]->∀{b:Nat},j9 w b->W<=b/\b≠E/\b<H.next:=fun O b u=>D.inl O u;have d1:∀j,j9 w2 j->¬j9 w1 j/\¬j9 w3 j:=by
  have X:∀j,j9 w1 j->¬j9 w2 j:=D.ap 0 1 w1 w2 rfl rfl oM;have a2:∀j,j9 w1 j->¬j9 w3 j:=D.ap 0 2 w1 w3 rfl rfl oM;have a3:∀j,j9 w2 j->¬j9 w3 j:=D.ap 1 2 w2 w3 rfl rfl oM;intro j I;exact⟨fun h=>by first|exact X j I h|exact X j h I|exact a2 j h I,fun h=>by first|exact a2 j I h|exact a3 j I h|exact a3 j h I⟩
 have a6:∀b{w:Value},w∈ [w1,w3]->j9 w b->(J.put E (bC (S++[vl,w1,v,w3]) 1)).get b=H.get b:=fun b w O u=>by
  have a9:w∈ [w1,w2,w3]:=by
   simp only[List.mem_cons,List.not_mem_nil,or_false]at O;rcases O with h|h<;>rw[h]<;>simp
  have:=inl a9 u;rw[e9 b this.2.1,U.but b this.2.2 (fun q=>by
   simp only[List.mem_cons,List.not_mem_nil,or_false]at O;rcases O with rfl|rfl
   .exact(d1 b q).1 u
   .exact(d1 b q).2 u)]
 have f1:t7 (J.put E (bC (S++[vl,w1,v,w3]) 1)) W 1 (R1 inE) v (r.size++[x]):=hO.same fun b u=>e9 b (by
  rcases U.new b u with q|q
  .exact(inl O q).2.1
  .omega)
 have hv:∀b,j9 v b->(∃w∈ [w1,w2,w3],j9 w b)\/H.next<=b:=fun b u=>(U.new b u).imp (fun q=>⟨_,O,q⟩) id;have hk:∀w∈ [w1,w2,w3],∀b,j9 w b->(∃w∈ [w1,w2,w3],j9 w b)\/H.next<=b:=fun w O b u=> .inl ⟨w,O,u⟩;have nw:∀b,(∃w∈ [w1,v,w3],j9 w b)->(∃w∈ [w1,w2,w3],j9 w b)\/H.next<=b:=fun b⟨w,z,u⟩=>by
  simp only[List.mem_cons,List.not_mem_nil,or_false]at z;rcases z with h|h|h<;>rw[h]at u<;>first|exact hv b u|exact hk _ sM b u
 have a4:∀j,j<H.next->j≠E->(∀w∈ [w1,w2,w3],¬j9 w j)->(J.put E (bC (S++[vl,w1,v,w3]) 1)).get j=H.get j:=fun j I h1 h2=>by
  rw[e9 j h1,U.but j I (h2 _ O)]
 have sG:∀j,G j->(J.put E (bC (S++[vl,w1,v,w3]) 1)).get j=H.get j:=fun j I=>by have:=D.fr j I;exact a4 j this.1 this.2.1 this.2.2
 have a7:aJ [w1,v,w3]:=D.ap.set (k:=1) (v:=v) (n:=H.next) rfl U.new fun y hy b u=>(inl hy u).2.2;refine⟨v,i,_,J,_,rfl,k1,ha,a8,k2,rfl,by rw[e1];rfl,by rw[e1];rfl,⟨i8 (u6 k2),D.st.mono sG (fun _ h=>h) iF iF,D.lb.mono sG (fun _ h=>h) (fun _ _ q=>w9 _ _ _ _ _ _ q sG (fun _ h=>h)),(D.so.same fun b u=>a6 b sM u),f1,(D.ho.same fun b u=>a6 b sM u),a7,fun j I=>?_,D.nb.1,fun w z q=>?_⟩,⟨a4,nw,(U.stay.weaken lR).trans (i4.put D.nb.1)⟩,by rw[j5];exact lR⟩
 .obtain⟨h1,h2,h3⟩:=D.fr j I;refine⟨by rw[j5];omega,h2,fun w z q=>?_⟩;rcases nw j ⟨w,z,q⟩with⟨w',z,q'⟩|q'
  .exact h3 w' z q'
  .omega
 .rcases nw E ⟨w,z,q⟩with⟨w',z,q'⟩|q'
  .exact D.nb.2 w' z q'
  .omega
theorem av8{Rp Rt:LV->Q->Prop}{H:d9}{E W:Nat}{G:Nat->Prop}{r:ReD}{S:LV}{vl w1 w2 w3:Value}(D:R0 Rp Rt H E W G r S vl w1 w2 w3)(x:(Int×Int×Int))(hl:r.how.length<=1000)(b0:W<=H.next):
  ∃v i K1 J K3,K1=H.push (bC (hoE x) 3)/\K1.get E=cE (S++[vl,w1,w2,w3]) 1/\fb prog K1 [37,37] w3 (sL H.next 1 1)=dr v i/\i.getD K1=J/\J.get E=cE (S++[vl,w1,w2,w3]) 1/\K3=J.put E (bC (S++[vl,w1,w2,v]) 1)/\v.cells.toList=[v]/\Value.oneCell' v=true/\
   R0 Rp Rt K3 E W G {r with sorts:=r.sorts,size:=r.size,how:=r.how++[x]} S vl w1 w2 v/\Z1 E W [w1,w2,w3] H [w1,w2,v] K3/\J.next<=K3.next:=by
 have a5:=u6 D.g;obtain⟨v,i,J,ha,a8,hO,U⟩:=D.ho.push1F (P:=prog) (t:=37) (cs:=hoE x) (a:=x) (by exact XW.2.2.2.2.2.2) yN.1 yN.2.1 yN.2.2.1 oM oM rfl rfl oM b0;have m2:=U.next;have O:w3∈ [w1,w2,w3]:=sM;obtain⟨a1,c1,e1⟩:=hO.slice;have k1:(H.push (bC (hoE x) 3)).get E=cE (S++[vl,w1,w2,w3]) 1:=by rw[j6 a5];exact D.g
 have b1:¬j9 w3 E:=D.nb.2 _ O;have k2:J.get E=cE (S++[vl,w1,w2,w3]) 1:=(U.but E a5 b1).trans D.g;have e9:∀j,j≠E->(J.put E (bC (S++[vl,w1,w2,v]) 1)).get j=J.get j:=fun j I=>i9 (fun q=>I q.symm);have inl:∀{w:Value},w∈ [w1,w2,w3]->∀{b:Nat},j9 w b->W<=b/\b≠E/\b<H.next:=fun O b u=>D.inl O u;have d1:∀j,j9 w3 j->¬j9 w1 j/\¬j9 w2 j:=by
  have X:∀j,j9 w1 j->¬j9 w2 j:=D.ap 0 1 w1 w2 rfl rfl oM;have a2:∀j,j9 w1 j->¬j9 w3 j:=D.ap 0 2 w1 w3 rfl rfl oM;have a3:∀j,j9 w2 j->¬j9 w3 j:=D.ap 1 2 w2 w3 rfl rfl oM;intro j I;exact⟨fun h=>by first|exact X j I h|exact X j h I|exact a2 j h I,fun h=>by first|exact a2 j I h|exact a3 j I h|exact a3 j h I⟩
 have a6:∀b{w:Value},w∈ [w1,w2]->j9 w b->(J.put E (bC (S++[vl,w1,w2,v]) 1)).get b=H.get b:=fun b w O u=>by
  have a9:w∈ [w1,w2,w3]:=by
   simp only[List.mem_cons,List.not_mem_nil,or_false]at O;rcases O with h|h<;>rw[h]<;>simp
  have:=inl a9 u;rw[e9 b this.2.1,U.but b this.2.2 (fun q=>by
   simp only[List.mem_cons,List.not_mem_nil,or_false]at O;rcases O with rfl|rfl
   .exact(d1 b q).1 u
   .exact(d1 b q).2 u)]
 have f1:t7 (J.put E (bC (S++[vl,w1,w2,v]) 1)) W 3 (R1 hoE) v (r.how++[x]):=hO.same fun b u=>e9 b (by
  rcases U.new b u with q|q
  .exact(inl O q).2.1
  .omega)
 have hv:∀b,j9 v b->(∃w∈ [w1,w2,w3],j9 w b)\/H.next<=b:=fun b u=>(U.new b u).imp (fun q=>⟨_,O,q⟩) id;have hk:∀w∈ [w1,w2,w3],∀b,j9 w b->(∃w∈ [w1,w2,w3],j9 w b)\/H.next<=b:=fun w O b u=> .inl ⟨w,O,u⟩;have nw:∀b,(∃w∈ [w1,w2,v],j9 w b)->(∃w∈ [w1,w2,w3],j9 w b)\/H.next<=b:=fun b⟨w,z,u⟩=>by
  simp only[List.mem_cons,List.not_mem_nil,or_false]at z;rcases z with h|h|h<;>rw[h]at u<;>first|exact hv b u|exact hk _ sM b u
 have a4:∀j,j<H.next->j≠E->(∀w∈ [w1,w2,w3],¬j9 w j)->(J.put E (bC (S++[vl,w1,w2,v]) 1)).get j=H.get j:=fun j I h1 h2=>by
  rw[e9 j h1,U.but j I (h2 _ O)]
 have sG:∀j,G j->(J.put E (bC (S++[vl,w1,w2,v]) 1)).get j=H.get j:=fun j I=>by have:=D.fr j I;exact a4 j this.1 this.2.1 this.2.2
 have a7:aJ [w1,w2,v]:=D.ap.set (k:=2) (v:=v) (n:=H.next) rfl U.new fun y hy b u=>(inl hy u).2.2;refine⟨v,i,_,J,_,rfl,k1,ha,a8,k2,rfl,by rw[e1];rfl,by rw[e1];rfl,⟨i8 (u6 k2),D.st.mono sG (fun _ h=>h) iF iF,D.lb.mono sG (fun _ h=>h) (fun _ _ q=>w9 _ _ _ _ _ _ q sG (fun _ h=>h)),(D.so.same fun b u=>a6 b sM u),(D.sz.same fun b u=>a6 b sM u),f1,a7,fun j I=>?_,D.nb.1,fun w z q=>?_⟩,⟨a4,nw,(U.stay.weaken lR).trans (i4.put D.nb.1)⟩,by rw[j5];exact lR⟩
 .obtain⟨h1,h2,h3⟩:=D.fr j I;refine⟨by rw[j5];omega,h2,fun w z q=>?_⟩;rcases nw j ⟨w,z,q⟩with⟨w',z,q'⟩|q'
  .exact h3 w' z q'
  .omega
 .rcases nw E ⟨w,z,q⟩with⟨w',z,q'⟩|q'
  .exact D.nb.2 w' z q'
  .omega
theorem au3(H:d9)(x:SoD)(n:Int)(m:Nat)(I:fm x m)(J:0<=n)(O:n<m):CL prog O8 46 [.agg (soE x).toArray,iV n] H=some (.bool (vz x n),none):=by
 obtain⟨h,t,b⟩:=x;obtain⟨D,u,-,y,-⟩:=pushF H (bC [.bool h,.bool t,.string b] 1);have z:H.next<=D.low:=by rw[u,O7];exact lR
 rw[j8 az4 rfl _ sM,vz];cases h with
 |false=>simp(maxSteps:=20000000) -dsimp (disch:=first|omega|(simp only[rH]<;>omega)|fail) only[↓ai3,rQ,D8,sevalprocAttr,tyA,<-u,y]
 |true=>
  have E:b.size=m:=I rfl;exact J2 u.symm y trivial
abbrev boV(b:Bool):Value:= .bool b
def al3(hs:List Bool)(x:EdD):Bool:=decide (x.2.2.1=0)||(decide (x.2.2.1=3)&&hs.getD x.2.2.2.toNat false)
def clP(hs:List Bool):List EdD->List Bool->List Bool
 |[],c=>c
 |x::l,c=>clP hs l (if c.getD x.1.toNat false&&al3 hs x then c.set x.2.1.toNat true else c)
def clI(hs:List Bool)(l:List EdD):Nat->List Bool->List Bool
 |0,c=>c
 |n+1,c=>clI hs l n (clP hs l c)
def ak9(hs:List Bool)(p:PrD)(q:Nat):List Bool:=clI hs p.ed p.st.toNat ((List.replicate p.st.toNat false).set q true)
theorem al8(hs:List Bool):∀(l:List EdD)(c:List Bool),(clP hs l c).length=c.length
 |[],c=>rfl
 |x::l,c=>by
  rw[clP,al8 hs l];split<;>simp
theorem ar3(hs:List Bool)(l:List EdD):∀(n:Nat)(c:List Bool),(clI hs l n c).length=c.length
 |0,c=>rfl
 |n+1,c=>by rw[clI,ar3 hs l n,al8]
theorem at2{bs:List Bool}{i:Nat}(h:i<bs.length):(bs.map boV)[i*1]?=some (.bool (bs.getD i false)):=by
 rw[Nat.mul_one,List.getElem?_map,List.getElem?_eq_getElem h,List.getD_eq_getElem?_getD,List.getElem?_eq_getElem h];rfl
theorem aq8(X:d9)(I p3 n:Nat)(hn:n<=1000000)(c6:I<X.next)(b5:p3≠I)(rp:LV)(g3:X.get p3=cE rp 1)(F:Nat->Prop)(hF:∀j,F j->j<X.next/\j≠I)
  (va:Option Addr) (ca:Nat) (l:List EdD) (r3:rp[3]?=some (.slice va l.length ca)) (hv:SlF X F 4 (R1 edE) (.slice va l.length ca) l) (hl:l.length<=1000000)
  (ha:Option Addr) (hc:Nat) (hs:List Bool) (hh:SlF X F 1 (R1 boE) (.slice ha hs.length hc) hs) (hw:∀x∈l,0<=x.1/\x.1<n/\0<=x.2.1/\x.2.1<n/\(x.2.2.1=3->0<=x.2.2.2/\x.2.2.2<hs.length)) (v9:Value) (r:List Bool):
  ∀kk e H,(∃(j:Nat)(bs:List Bool),kk=l.length-j/\j<=l.length/\e.get 2= .slice ha hs.length hc/\e.get 3=pT p3/\e.get 7=sL I n (n+1)/\e.get 9=v9/\e.get 10=iV j/\bs.length=n/\H.get I=cE (bs.map boV) 1/\Fr1 I X H/\clP hs (l.drop j) bs=r)->
  u9 (LE prog O8 (.loop au0) e H) (fun o e H=>o= .exit 4/\e.get 2= .slice ha hs.length hc/\e.get 3=pT p3/\e.get 7=sL I n (n+1)/\e.get 9=v9/\r.length=n/\H.get I=cE (r.map boV) 1/\Fr1 I X H):=by
 refine j7 _ _ ?_;rintro kk e H ⟨j,bs,hk,hj,f2,f3,f7,f9,f10,y,gb,U,E⟩;have gp:=(U.but p3 (u6 g3) b5).trans g3;rcases bb:decide ((j:Int)<l.length)with _|_
 .have b2:=dF bb;have:l.drop j=[]:=dN oM;rw[this,clP]at E;refine J5 f3 f10 gp r3 bb ?_;exact l7 ⟨rfl,f2,f3,f7,f9,by rw[<-E];exact y,by rw[<-E];exact gb,U⟩
 have b2:=dT bb;have c5:=U.stay.next;obtain⟨x,nb,o,cs,own,el,hx,hd,rfl,a6,hg,c4,D,c3,z⟩:=hv.row (i:=j) oM;have z:el=edE x:=z;obtain⟨w1,w2,w3,w4,w5⟩:=hw x (mG hx);have nt:(j:Int).toNat=j:=tN j;have gx:=(U.but nb (hF _ a6).1 (hF _ a6).2).trans hg;have a1:el.all oC=true:=by rw[z];rfl
 have l1:el.length=4:=by rw[z];rfl
 have e0:el[0]?=some (.int .i64 x.1):=by rw[z];rfl
 have e1:el[1]?=some (.int .i64 x.2.1):=by rw[z];rfl
 have e2:el[2]?=some (.int .i64 x.2.2.1):=by rw[z];rfl
 have e3:el[3]?=some (.int .i64 x.2.2.2):=by rw[z];rfl
 obtain⟨H3,J,n3,S,s3⟩:=pushP H (bC [iV 0,iV 0,iV 0,iV 0] 1) (bC el 1);have W:splice [iV 0,iV 0,iV 0,iV 0] 0 el=el:=w7 _ _ (by rw[l1];rfl);have O:Fr1 I X H3:=U.trans (Fr1.of s3 oM (by rw[J,A4,O7];omega));have u:=(s3.get I oM).trans gb;have bg:=at2 (bs:=bs) (i:=x.1.toNat) oM;have bl:(bs.map boV).length=bs.length:=sM;have a8:x.2.1.toNat*1+1<=n:=oM;obtain⟨H4,a2⟩:=eY (H3.put I (.cells ((bs.map boV).set (x.2.1.toNat*1) (.bool true)) true 1));have a5:H4.get I=some (.cells ((bs.set x.2.1.toNat true).map boV) true 1):=by rw[a2,i8 oM,Nat.mul_one,List.map_set]
 have a3:Fr1 I X H4:=O.trans (by rw[a2];exact Fr1.put);rw[hd,clP,al3]at E;have d1:decide ((x.1.toNat:Int)<n)=true:=decide_eq_true oM;rcases b0:bs.getD x.1.toNat false with _|_
 .rw[b0]at bg;simp only[b0,Bool.false_and,bF]at E;refine J18 f3 f7 f10 gp r3 bb gx nt D a1 l1 W J.symm S e0 u bg @wrap_small ?_;exact i6 (kk-1) oM ⟨j+1,bs,oM,oM,f2,f3,f7,f9,rfl,y,u,O,E⟩
 rw[b0]at bg;simp only[b0,Bool.true_and]at E;rcases k0:decide (x.2.2.1=0)with _|_
 .rcases k3:decide (x.2.2.1=3)with _|_
  .simp only[k0,k3,Bool.false_and,Bool.or_self,bF]at E;refine J21 f3 f7 f10 gp r3 bb gx nt D a1 l1 W J.symm S e0 e2 u bg k0 k3 @wrap_small ?_;exact i6 (kk-1) oM ⟨j+1,bs,oM,oM,f2,f3,f7,f9,rfl,y,u,O,E⟩
  .obtain⟨t1,t2⟩:=w5 (dT k3);have b4:SlF H3 F 1 (R1 boE) (.slice ha hs.length hc) hs:=hh.mono (fun j hj=>O.but j (hF j hj).1 (hF j hj).2) (fun _ h=>h) iF;obtain⟨v,nv,ov,cv,b9,a9,b7,_,rfl,c0,a7,b8,b6,b3,b1⟩:=b4.row (i:=x.2.2.2.toNat) oM;obtain rfl:a9=boE v:=b1;have a4:cv[ov+x.2.2.2.toNat*1]?=some (.bool v):=by have:=b3 0 oM;rw[Nat.add_zero]at this;exact this
   have ev:hs.getD x.2.2.2.toNat false=v:=by rw[List.getD_eq_getElem?_getD,b7];rfl
   cases v with
   |false=>
    simp only[k0,k3,ev,Bool.and_false,Bool.or_self,bF]at E;refine J25 f2 f3 f7 f10 gp r3 bb gx nt D a1 l1 W J.symm S e0 e2 e3 u bg k0 k3 a7 a4 @wrap_small ?_;exact i6 (kk-1) oM ⟨j+1,bs,oM,oM,f2,f3,f7,f9,rfl,y,u,O,E⟩
   |true=>
    simp only[k0,k3,ev,Bool.and_self,Bool.or_true,if_true]at E;refine J30 f2 f3 f7 f10 gp r3 bb gx nt D a1 l1 W J.symm S e0 e1 e2 e3 u bg y bl a8 k0 k3 a7 a4 a2.symm @wrap_small ?_;exact i6 (kk-1) oM ⟨j+1,_,oM,oM,f2,f3,f7,f9,rfl,by rw[List.length_set];exact y,a5,a3,E⟩
 .simp only[k0,Bool.true_or,if_true]at E;refine J25 f3 f7 f10 gp r3 bb gx nt D a1 l1 W J.symm S e0 e1 e2 u bg y bl a8 k0 a2.symm @wrap_small ?_;exact i6 (kk-1) oM ⟨j+1,_,oM,oM,f2,f3,f7,f9,rfl,by rw[List.length_set];exact y,a5,a3,E⟩
theorem aq7(E:d9)(y W n:Nat)(hn:n<=1000000)(a6:y<E.next)(U:W≠y)(rp:LV)(g3:E.get W=cE rp 1)(F:Nat->Prop)(J:∀j,F j->j<E.next/\j≠y) (r0:rp[0]?=some (.int .i64 n))
  (va:Option Addr) (ca:Nat) (l:List EdD) (r3:rp[3]?=some (.slice va l.length ca)) (hv:SlF E F 4 (R1 edE) (.slice va l.length ca) l) (hl:l.length<=1000000)
  (ha:Option Addr) (hc:Nat) (hs:List Bool) (hh:SlF E F 1 (R1 boE) (.slice ha hs.length hc) hs) (hw:∀x∈l,0<=x.1/\x.1<n/\0<=x.2.1/\x.2.1<n/\(x.2.2.1=3->0<=x.2.2.2/\x.2.2.2<hs.length)) (r:List Bool):
  ∀kk e H,(∃(j:Nat)(bs:List Bool),kk=n-j/\j<=n/\e.get 2= .slice ha hs.length hc/\e.get 3=pT W/\e.get 7=sL y n (n+1)/\e.get 9=iV j/\bs.length=n/\H.get y=cE (bs.map boV) 1/\Fr1 y E H/\clI hs l (n-j) bs=r)->
  u9 (LE prog O8 (.loop au1) e H) (fun o e H=>o= .exit 2/\e.get 7=sL y n (n+1)/\r.length=n/\H.get y=cE (r.map boV) 1/\Fr1 y E H):=by
 refine j7 _ _ ?_;rintro kk e H ⟨j,bs,hk,D,f2,f3,f7,f9,S,gb,u,I⟩;have gp:=(u.but W (u6 g3) U).trans g3;have a5:=u.stay.next;rcases X:decide ((j:Int)<n)with _|_
 .have a3:=dF X;rw[show n-j=0 from oM,clI]at I;refine J5 f3 f9 gp r0 X ?_;exact l7 ⟨rfl,f7,by rw[<-I];exact S,by rw[<-I];exact gb,u⟩
 have a3:=dT X;rw[show n-j=(n-(j+1))+1 from oM,clI]at I;refine J5 f3 f9 gp r0 X ?_;refine l9 (F:=fun z=>u9 (u7 (inBlock 3 (inBlock 4 z)) _) _) (aq8 H y W n hn oM U rp gp F (fun j D=>by have:=J j D;exact⟨oM,this.2⟩) va ca l r3 (hv.mono (fun j D=>u.but j (J j D).1 (J j D).2) (fun _ h=>h) iF) hl ha hc hs (hh.mono (fun j D=>u.but j (J j D).1 (J j D).2) (fun _ h=>h) iF) hw (.int .i64 j) (clP hs l bs) (l.length-0) _ _ ⟨0,bs,rfl,Nat.zero_le _,f2,f3,f7,f9,rfl,S,gb,Fr1.refl _ _,rfl⟩) ?_;rintro o e' H' ⟨ho,g2,a1,g7,g9,a4,a2,O⟩;refine J3 ho g9 @wrap_small ?_;exact i6 (kk-1) oM ⟨j+1,_,oM,oM,g2,a1,g7,by rw[show((j+1:Nat):Int)=(j:Int)+1 from oM];rfl,a4,a2,u.trans O,I⟩
theorem aq6(D:d9)(h n:Nat)(hn:n<=1000000)(a6:h<D.next)(q:Nat)(hq:q<n)(F:Nat->Prop)(hF:∀j,F j->j<D.next/\j≠h) (qa:Option Addr) (qc:Nat) (X:SlF D F 1 (R1 inE) (.slice qa 1 qc) [(q:Int)]) (v2 v3:Value):
  ∀kk e H,(∃(j:Nat)(bs:List Bool),kk=1-j/\j<=1/\e.get 1= .slice qa 1 qc/\e.get 2=v2/\e.get 3=v3/\e.get 7=sL h n (n+1)/\e.get 8=iV j/\bs=(if j=0 then List.replicate n false else(List.replicate n false).set q true)/\H.get h=cE (bs.map boV) 1/\Fr1 h D H)->
  u9 (LE prog O8 (.loop at9) e H) (fun o e H=>o= .exit 0/\e.get 2=v2/\e.get 3=v3/\e.get 7=sL h n (n+1)/\H.get h=some (.cells (((List.replicate n false).set q true).map boV) true 1)/\Fr1 h D H):=by
 refine j7 _ _ ?_;rintro kk e H ⟨j,bs,hk,hj,J,f2,f3,f7,f8,y,gb,u⟩;rcases bb:decide ((j:Int)<1)with _|_
 .have S:=dF bb;obtain rfl:j=1:=oM;simp only[show¬(1:Nat)=0 from oM,if_false]at y;subst y;refine J2 J f8 ?_;exact l7 ⟨rfl,f2,f3,f7,gb,u⟩
 have S:=dT bb;obtain rfl:j=0:=oM;simp only[if_true]at y;subst y;obtain⟨x,nb,o,cs,own,el,hx,hd,rfl,E,hg,a4,a3,U,W⟩:=X.row (i:=0) sM;obtain rfl:el=inE x:=W;have hx:x=(q:Int):=by simpa using hx.symm
 subst hx;have gx:=(u.but nb (hF _ E).1 (hF _ E).2).trans hg;have c0:cs[o]?=some (.int .i64 q):=by have:=U 0 oM;simpa using this
 have bl:((List.replicate n false).map boV).length=n:=sM;have a1:q*1+1<=n:=oM;have a2:(q:Int).toNat=q:=tN q;have dq:decide ((q:Int)<n)=true:=decide_eq_true oM;have a5:=u.stay.next;obtain⟨H4,z⟩:=eY (H.put h (.cells (((List.replicate n false).map boV).set (q*1) (.bool true)) true 1));have O:H4.get h=some (.cells (((List.replicate n false).set q true).map boV) true 1):=by rw[z,i8 oM,Nat.mul_one,List.map_set]
 have I:Fr1 h D H4:=u.trans (by rw[z];exact Fr1.put);refine J11 J f7 f8 gx c0 gb bl a1 a2 z.symm @wrap_small ?_;exact i6 (kk-1) oM ⟨1,_,oM,oM,J,f2,f3,f7,rfl,rfl,O,I⟩
theorem ay7(H:d9)(F:Nat->Prop)(Rt:LV->Q->Prop)(cs:LV)(p:PrD)(hF:∀j,F j->j<H.next) (hp:PrF H F Rt cs p) (n:Nat) (S:p.st=n) (hn:n<=1000000) (hl:p.ed.length<=1000000) (q:Nat) (hq:q<n) (qa:Option Addr) (qc:Nat) (b1:SlF H F 1 (R1 inE) (.slice qa 1 qc) [(q:Int)])
  (I:Option Addr) (hc:Nat) (hs:List Bool) (hh:SlF H F 1 (R1 boE) (.slice I hs.length hc) hs) (hw:∀x∈p.ed,0<=x.1/\x.1<p.st/\0<=x.2.1/\x.2.1<p.st/\(x.2.2.1=3->0<=x.2.2.2/\x.2.2.2<hs.length)):
  N5 (CL prog O8 45 [.agg cs.toArray,.slice qa 1 qc,.slice I hs.length hc] H) H 1 (R1 boE) (ak9 hs p q):=by
 obtain⟨ea,ec,ta,tc,J,h1,h2⟩:=E1 hp;have ac:cs.all oC=true:=by rw[J];rfl
 have c0:cs[0]?=some (.int .i64 n):=by rw[J,S];rfl
 have c3:cs[3]?=some (.slice ea p.ed.length ec):=by rw[J];rfl
 obtain⟨D,W,n1,g1,s1⟩:=pushF H (bC cs 1);have O:H.next<=D.low:=by rw[W];exact lR
 obtain⟨H2,X,n2,a5,s2⟩:=pushE D (.cells ((List.replicate n false).map boV) true 1);have a9:V3 prog D 83 (.int .i64 n) (.int .i64 n)=some (sL D.next n (n+1),H2):=by
  have e1:(List.replicate n [Value.bool false]).flatten=(List.replicate n false).map boV:=by
   rw[List.flatten_replicate_singleton,List.map_replicate]
  simp only[V3,XY.2.2.2.2.2.1,ty4.2.2.1,ty4.2.1,Int.toNat_natCast,e1];rw[if_pos ⟨by decide,oM,Int.le_refl _,oM,oM⟩,X];rfl
 have a4:H2.get H.next=cE cs 1:=(s2.get _ oM).trans g1;have a3:i4 H.next H H2:=s1.trans (s2.weaken oM);have u:∀j,F j->j<H2.next/\j≠D.next:=fun j y=>oN (hF j y);have hm:∀j,F j->H2.get j=H.get j:=fun j y=>a3.get j (hF j y);have a1:H.next<=H2.low:=by rw[X,O7];exact O
 rw[j8 az3 rfl _ sM];refine J5 ac W.symm g1 c0 a9 ?_;refine l9 (F:=fun z=>N5 (u5 _ _ _ (u7 (inBlock 0 z) _)) _ _ _ _) (aq6 H2 D.next n hn oM q hq F u qa qc (b1.mono hm (fun _ h=>h) iF) (.slice I hs.length hc) (pT H.next) (1-0) _ _ ⟨0,_,rfl,oM,rfl,rfl,rfl,rfl,rfl,rfl,a5,Fr1.refl _ _⟩) ?_;rintro o e' H3 ⟨ho,k2,k3,k7,a6,U⟩;have n3:=U.stay.next;refine J1 ho ?_;refine l9 (F:=fun z=>N5 (u5 _ _ _ (u7 (inBlock 2 z) _)) _ _ _ _) (aq7 H3 D.next H.next n hn oM oM cs ((U.but _ oM oM).trans a4) F (fun j y=>by have:=u j y;exact⟨oM,this.2⟩) c0 ea ec p.ed c3 (h1.mono (fun j y=>(U.but j (u j y).1 (u j y).2).trans (hm j y)) (fun _ h=>h) iF) hl I hc hs (hh.mono (fun j y=>(U.but j (u j y).1 (u j y).2).trans (hm j y)) (fun _ h=>h) iF) (fun x hx=>by have:=hw x hx;rw[S]at this;exact this) (ak9 hs p q) (n-0) _ _ ⟨0,_,rfl,Nat.zero_le _,k2,k3,k7,rfl,by simp,a6,Fr1.refl _ _,by rw[ak9,S];rfl⟩) ?_;rintro o2 e2 H4 ⟨b0,m7,a8,a7,F4⟩;have E:=U.trans F4;have n4:=E.stay.next;have s4:i4 H.next H H4:=a3.trans (E.stay.weaken oM);have a2:H.next<=H4.low:=(E.stay.weaken (show H.next<=D.next from oM)).low a1;refine J2 b0 m7 ?_;refine I4 ⟨(ak9 hs p q).map boV,.inr ⟨D.next,n+1,by rw[a8],a7,oM,by simp⟩,by simp,fun i a I=>?_⟩ s4 a2;rw[Nat.mul_one,List.drop_eq_getElem_cons (by simpa using (gS I).1),List.take_succ_cons,List.take_zero];simp only[List.getElem_map];rw[(gS I).2]
structure aq4(Hs:d9)(lo K:Nat)(s:StD)(e:EvD)(bs:List Bool)(F:Nat->Prop)(H:d9)(rs re:LV)(ba:Option Addr)(bc:Nat):Prop where
 st:StF H F (QR Hs lo K false) (QR Hs lo K true) rs s
 ev:EvF H F re e
 bi:SlF H F 1 (R1 wB) (.slice ba bs.length bc) bs
 lt:∀j,F j->j<H.next
 eq:∀j,j<lo->H.get j=Hs.get j
 lo:lo<=H.next
theorem aq4.work{D:d9}{lo K:Nat}{s:StD}{e:EvD}{bs:List Bool}{F:Nat->Prop}{H H':d9}{O J:LV}{E:Option Addr}{I:Nat}(h:aq4 D lo K s e bs F H O J E I)(y:i4 H.next H H'):aq4 D lo K s e bs F H' O J E I:=by
 have U:=y.next;have z:∀j,F j->H'.get j=H.get j:=fun j u=>y.get j (h.lt j u);have S:=h.lo;exact⟨h.st.mono z (fun _ h=>h) iF iF,w9 _ _ _ _ _ _ h.ev z (fun _ h=>h),h.bi.mono z (fun _ h=>h) iF,fun j u=>by have:=h.lt j u;omega,fun j u=>by rw[y.get j oM];exact h.eq j u,oM⟩
def al4(Hs:d9)(lo K k:Nat):Prop:=∀(H:d9)(s:StD)(e:EvD)(bs:List Bool)(F:Nat->Prop)(rs re:LV)(ba:Option Addr)(bc:Nat)(cs:LV)(q:Q),aq4 Hs lo K s e bs F H rs re ba bc->WfS s bs.length->e.attrs.length<=1000000->QR Hs lo k true cs q->OkD true q->
 CL prog O8 44 [.agg rs.toArray,.agg cs.toArray,.agg re.toArray,.slice ba bs.length bc] H=some (.bool (R7 s e bs q),none)
theorem ao3(S:d9)(lo K k:Nat)(ih:al4 S lo K k)(s:StD)(z:EvD)(bs:List Bool)(F:Nat->Prop)(H:d9)(D J:LV)(X:Option Addr)(bc:Nat)(O:aq4 S lo K s z bs F H D J X bc)(hw:WfS s bs.length)(a1:z.attrs.length<=1000000)
  (ps pf pe:Nat) (gs:H.get ps=cE D 1) (cs:LV) (gf:H.get pf=cE cs 1) (ge:H.get pe=cE J 1) (va:Option Addr) (ca:Nat) (l:List Q) (c4:cs[4]?=some (.slice va l.length ca)) (hv:QsR S lo k true (.slice va l.length ca) l) (hl:l.length<=1048576) (a4:∀x∈l,OkD true x) (r:Bool×Bool):
  ∀kk e H2,(∃(i:Nat)(a o:Bool),kk=l.length-i/\i<=l.length/\e.get 3= .slice X bs.length bc/\e.get 4=pT ps/\e.get 5=pT pf/\e.get 6=pT pe/\e.get 9= .bool a/\e.get 10= .bool o/\e.get 11=iV i/\H2=H/\(a&&(l.drop i).all (R7 s z bs),o||(l.drop i).any (R7 s z bs))=r)->
  u9 (LE prog O8 (.loop at7) e H2) (fun o e H2=>o= .exit 0/\e.get 5=pT pf/\e.get 9= .bool r.1/\e.get 10= .bool r.2/\H2=H):=by
 refine j7 _ _ ?_;rintro kk e H2 ⟨i,a,o,hk,hi,f3,f4,f5,f6,f9,f10,f11,rfl,y⟩;rcases b:decide ((i:Int)<l.length)with _|_
 .have a2:=dF b;have:l.drop i=[]:=dN oM;rw[this]at y;simp only[List.all_nil,List.any_nil,Bool.and_true,Bool.or_false]at y;refine J5 f5 f11 gf c4 b ?_;exact l7 ⟨rfl,f5,by rw[<-y];exact f9,by rw[<-y];exact f10,rfl⟩
 have a2:=dT b;obtain⟨x,nb,ox,a7,own,el,hx,hd,rfl,a3,hg,a9,u,hr⟩:=hv.row (i:=i) oM;have I:=(O.eq nb a3).trans hg;simp only[qSz,if_true]at u I;have nt:(i:Int).toNat=i:=tN i;have W:D.all oC=true/\ldC (some true) (some 8) 0 D=some (.agg D.toArray):=by
  obtain⟨pa,pc,ga,gc,xa,xc,ea,ec,ta,tc,a6,_⟩:=N3 O.st;rw[a6];exact⟨rfl,rfl⟩
 have U:ldC (some true) (some 5) 0 J=some (.agg J.toArray):=by
  obtain⟨av,a5,a8⟩:=O.ev;rw[a5];rfl
 have E:=ih H2 s z bs F D J X bc el x O hw a1 hr (a4 x (mG hx));rw[hd,List.all_cons,List.any_cons]at y;obtain⟨h,hh⟩:=eY (R7 s z bs x);rw[<-hh]at E y;cases a<;>cases o<;>cases h<;>
 .refine J19 f3 f4 f5 f6 f9 f10 f11 gf c4 b gs ge W.2 U I nt u E @wrap_small ?_;refine i6 (kk-1) oM ⟨i+1,_,_,oM,oM,f3,f4,f5,f6,rfl,rfl,by rw[show((i+1:Nat):Int)=(i:Int)+1 from oM];rfl,rfl,?_⟩
  simpa using y
def am6(op:Int)(nm:NmQ)(vl:ByteArray):List AtD->Option Bool
 |[]=>none
 |a::l=>if Q3 (a.space,a.loc) nm then some (decide (op=5)||decide (a.val=vl)) else am6 op nm vl l
theorem ao8(op:Int)(h:NmQ)(vl:ByteArray):∀l,am6 op h vl l=if(Y1 1 h l).2 then some (decide (op=5)||decide ((Y1 1 h l).1=vl)) else none
 |[]=>rfl
 |a::l=>by
  rw[am6,Y1];split
  .rfl
  .exact ao8 op h vl l
theorem ar1(H:d9)(F:Nat->Prop)(pf pe:Nat)(cs re:LV)(W:H.get pf=cE cs 1)(I:H.get pe=cE re 1)(op:Int)(y:NmQ)(vl:ByteArray)(U:cs[0]?=some (.int .i64 op))(D:ldC (some true) (some 2) 1 cs=some (.agg #[.string y.1,.string y.2]))(c3:cs[3]?=some (.string vl))
  (va:Option Addr) (ca:Nat) (l:List AtD) (J:re[3]?=some (.slice va l.length ca)) (hv:SlF H F 3 (R1 atE) (.slice va l.length ca) l) (hn:l.length<=1000000) (r:Option Bool):
  ∀kk e H2,(∃i:Nat,kk=l.length-i/\i<=l.length/\e.get 5=pT pf/\e.get 6=pT pe/\e.get 14=iV i/\H2=H/\(if 5<=op then am6 op y vl (l.drop i) else none)=r)->
  u9 (LE prog O8 (.loop at8) e H2) (fun o e H2=>H2=H/\((o= .exit 2/\r=none/\e.get 5=pT pf)\/(∃b,o= .ret/\r=some b/\e.get 8= .bool b))):=by
 refine j7 _ _ ?_;rintro kk e H2 ⟨i,hk,hi,f5,f6,f14,rfl,h⟩;rcases b:decide ((i:Int)<l.length)with _|_
 .have X:=dF b;have:l.drop i=[]:=dN oM;rw[this,am6,ite_self]at h;refine J5 f6 f14 I J b ?_;exact l7 ⟨rfl,.inl ⟨rfl,h.symm,f5⟩⟩
 have X:=dT b;rcases z:decide (5<=op)with _|_
 .rw[if_neg (dF z)]at h;refine J9 f5 f6 f14 I W U J b z ?_;exact l7 ⟨rfl,.inl ⟨rfl,h.symm,f5⟩⟩
 rw[if_pos (dT z)]at h;obtain⟨a,nb,o,E,own,el,hx,hd,rfl,a3,hg,a1,a2,hc,rfl⟩:=hv.row (i:=i) oM;have nt:(i:Int).toNat=i:=tN i;have l0:ldC (some true) (some 2) (o+i*3) E=some (.agg #[.string a.space,.string a.loc]):=vQ hc a1 (j:=0) (m:=2) oM;have l2:E[o+i*3+2]?=some (.string a.val):=hc 2 oM;rw[hd,am6]at h;rcases O:Q3 (a.space,a.loc) y with _|_
 .simp only[O,bF]at h;have u:(decide (a.space=y.1)&&decide (a.loc=y.2))=false:=O;refine J15 f5 f6 f14 I W U D J b z hg nt l0 u @wrap_small ?_;exact i6 (kk-1) oM ⟨i+1,oM,oM,f5,f6,by rw[show((i+1:Nat):Int)=(i:Int)+1 from oM];rfl,rfl,by rw[if_pos (dT z)];exact h⟩
 .simp only[O,if_true]at h;have u:(decide (a.space=y.1)&&decide (a.loc=y.2))=true:=O;rcases S:decide (op=5)with _|_
  .simp only[S,Bool.false_or]at h;refine J17 f5 f6 f14 I W U D c3 J b z S hg nt l0 l2 u ?_;exact A6 ⟨rfl,.inr ⟨_,rfl,h.symm,rfl⟩⟩
  .simp only[S,Bool.true_or]at h;refine J15 f5 f6 f14 I W U D J b z S hg nt l0 u ?_;exact A6 ⟨rfl,.inr ⟨_,rfl,h.symm,rfl⟩⟩
theorem ap6(Hs:d9)(lo K k:Nat)(hk:k<=K)(ih:al4 Hs lo K k):al4 Hs lo K (k+1):=by
 intro H s e bs F rs re ba bc cs q hA hw a7 hr k4;obtain⟨d0,q1,p9,g2,m4⟩:=k4.parts;obtain⟨m5,m6,g3,q2⟩:=dk m4;have n3:q.op<=11:=by
  simp only[lE,if_true,Bool.and_eq_true,decide_eq_true_eq]at g2;exact g2.1.1
 simp only[if_true]at g3;have a1:=F0 hr;have l6:=hr.len;have g0:=M8 hr;rw[l6]at g0;simp only[qSz,if_true]at l6 g0;obtain⟨va,ca,wa,g7,a6,h1,h2,h3,h4,_⟩:=hr.filter;have W:cs[0]?=some (.int .i64 q.op):=by rw[a6];rfl
 have c3:cs[3]?=some (.string q.vl):=by rw[a6];rfl
 have c4:cs[4]?=some (.slice va q.a.length ca):=by rw[a6];rfl
 have c5:cs[5]?=some (.slice wa q.b.length g7):=by rw[a6];rfl
 have d4:ldC (some true) (some 2) 1 cs=some (.agg #[.string q.sp,.string q.lc]):=by rw[a6];rfl
 obtain⟨pa,pc,ga,gc,xa,xc,ea,ec,ta,tc,a8,m1,m2,m3,_⟩:=N3 hA.st;obtain⟨av,a5,d8⟩:=hA.ev;obtain⟨d1,d2,rfl⟩:=d8.slice;have E:rs.all oC=true:=by rw[a8];rfl
 have D:re.all oC=true:=by rw[a5];rfl
 have c9:ldC (some true) (some 8) 0 rs=some (.agg rs.toArray):=by rw[a8];rfl
 have m0:ldC (some true) (some 5) 0 re=some (.agg re.toArray):=by rw[a5];rfl
 have r1:rs[1]?=some (.slice ga s.progs.length gc):=by rw[a8];rfl
 have r2:rs[2]?=some (.slice xa s.base.length xc):=by rw[a8];rfl
 have e0:re[0]?=some (.int .i64 e.kind):=by rw[a5];rfl
 have e3:re[3]?=some (.slice d1 e.attrs.length d2):=by rw[a5];rfl
 have e4:re[4]?=some (.string e.text):=by rw[a5];rfl
 have e1:ldC (some true) (some 2) 1 re=some (.agg #[.string e.space,.string e.loc]):=by rw[a5];rfl
 obtain⟨H1,u⟩:=eY (((d9.push ⟨H.bs,H.next⟩ (bC rs 1)).push (bC cs 1)).push (bC re 1));have n0:(d9.push ⟨H.bs,H.next⟩ (bC rs 1)).next=H.next+1:=by rw[i5];rfl
 have n1:H1.next=H.next+3:=by rw[u,i5,i5,n0]
 have s1:i4 H.next H H1:=by rw[u];exact((i4.first H _).trans (i4.push oM)).trans (i4.push (by rw[i5];omega))
 have g4:H1.get H.next=cE rs 1:=by rw[u,j6 (by rw[i5];omega),j6 oM];exact i7
 have S:H1.get (H.next+1)=cE cs 1:=by rw[u,j6 (by rw[i5];omega)];exact R2 oM
 have g6:H1.get (H.next+2)=cE re 1:=by rw[u];exact R2 (by rw[i5];omega)
 have n2:H.next<=H1.low:=by rw[u];exact lR
 have J:=hA.work s1;rw[j8 az2 rfl _ sM,xz];by_cases o8:q.op=8
 .have k2:q.a.length=1:=by simp only[o8,lst,mst,if_true]at m5 m6;omega
  obtain⟨x,nb,ox,g8,own,el,hx,hd,rfl,c7,hg,k3,U,c8⟩:=h1.row (i:=0) oM;have a4:=(J.eq nb c7).trans hg;simp only[qSz,if_true,Nat.zero_mul,Nat.add_zero]at U a4;have j0:=ih H1 s e bs F rs re ba bc el x J hw a7 c8 (d0 x (mG hx));have i2:q.a=[x]:=by
   have:q.a.drop 1=[]:=dN oM
   simpa [this] using hd
  rw[if_neg oM,if_neg oM,if_neg oM,if_neg oM,if_neg oM,if_neg oM,if_neg oM,if_pos (.inl o8),i2];have hb:((List.any [x] fun x=> !R7 s e bs x)==decide (q.op=8))= !R7 s e bs x:=by simp [o8]
  rw[hb];exact J16 E a1 D u.symm g4 S g6 c9 m0 W c4 o8 k2 a4 U j0 trivial
 have b8:decide (q.op=8)=false:=decide_eq_false o8;have k8:(q.op=8\/q.op=9)=(q.op=9):=by rw[eq_false o8,false_or]
 by_cases b0:q.op=9\/q.op=10
 .obtain⟨A,b5⟩:=eY (q.a.all (R7 s e bs));obtain⟨O,b6⟩:=eY (q.a.any (R7 s e bs));have e8:(if q.op=1 then true else if q.op=2 then decide (e.kind=1) else if q.op=3 then !decide (e.kind=1) else if q.op=4 then decide (e.kind=1)&&Q3 (e.space,e.loc) (q.sp,q.lc) else
    if q.op=5 then(Y1 e.kind (q.sp,q.lc) e.attrs).2 else if q.op=6 then(Y1 e.kind (q.sp,q.lc) e.attrs).2&&decide ((Y1 e.kind (q.sp,q.lc) e.attrs).1=q.vl) else if q.op=7 then !decide (e.kind=1)&&decide (e.text=q.vl) else
    if q.op=8\/q.op=9 then(q.a.any (fun x=> !R7 s e bs x)==decide (q.op=8)) else if q.op=10 then q.a.any (R7 s e bs) else q.b.any (kU s bs))=(if q.op=9 then A else O):=by
   rw[if_neg oM,if_neg oM,if_neg oM,if_neg oM,if_neg oM,if_neg oM,if_neg oM];simp only[k8,b8];by_cases o9:q.op=9
   .rw[if_pos o9,if_pos o9,b5,List.all_eq_not_any_not];cases(q.a.any fun x=> !R7 s e bs x)<;>rfl
   .rw[if_neg o9,if_neg o9,if_pos oM,b6]
  rw[e8];rcases b9:decide (q.op=9)with _|_
  .have X:decide (q.op=10)=true:=decide_eq_true (oN (dF b9));rw[if_neg (dF b9)];refine J9 E a1 D u.symm S W b8 b9 X ?_;refine l9 (F:=fun z=>u5 _ _ _ (u7 (u7 (inBlock 0 z) _) _)=_) (ao3 Hs lo K k ih s e bs F H1 rs re ba bc J hw a7 H.next (H.next+1) (H.next+2) g4 cs S g6 va ca q.a c4 h1 h3 d0 (A,O) (q.a.length-0) _ _ ⟨0,true,false,rfl,Nat.zero_le _,rfl,rfl,rfl,rfl,rfl,rfl,rfl,rfl,by rw[List.drop_zero,b5,b6];simp⟩) ?_;rintro o e' H' ⟨ho,k5,k9,f2,rfl⟩;cases A<;>cases O<;>simp(maxSteps:=20000000) -dsimp (disch:=first|omega|(simp only[rH]<;>omega)|fail) only[↓ai3,rQ,D8,sevalprocAttr,tyA,ho,k5,f2,S,W,b9,X]
  .have X:decide (q.op=10)=false:=decide_eq_false (oN (dT b9));rw[if_pos (dT b9)];refine J8 E a1 D u.symm S W b8 b9 ?_;refine l9 (F:=fun z=>u5 _ _ _ (u7 (u7 (inBlock 0 z) _) _)=_) (ao3 Hs lo K k ih s e bs F H1 rs re ba bc J hw a7 H.next (H.next+1) (H.next+2) g4 cs S g6 va ca q.a c4 h1 h3 d0 (A,O) (q.a.length-0) _ _ ⟨0,true,false,rfl,Nat.zero_le _,rfl,rfl,rfl,rfl,rfl,rfl,rfl,rfl,by rw[List.drop_zero,b5,b6];simp⟩) ?_;rintro o e' H' ⟨ho,k5,k9,f2,rfl⟩;cases A<;>cases O<;>simp(maxSteps:=20000000) -dsimp (disch:=first|omega|(simp only[rH]<;>omega)|fail) only[↓ai3,rQ,D8,sevalprocAttr,tyA,ho,k5,k9,S,W,b9,X]
 have o9:q.op≠9:=fun h=>b0 (.inl h);have g1:q.op≠10:=fun h=>b0 (.inr h);have b9:decide (q.op=9)=false:=decide_eq_false o9;have X:decide (q.op=10)=false:=decide_eq_false g1;by_cases a9:q.op=11
 .have e5:q.b.length=1:=g3.1 a9;obtain⟨x,nb,ox,g8,own,el,hx,hd,rfl,c7,hg,k3,U,c8⟩:=h2.row (i:=0) oM;have a4:=(J.eq nb c7).trans hg;simp only[qSz,Bool.not_true,bF,Nat.zero_mul,Nat.add_zero]at U a4;have i3:q.b=[x]:=by
   have:q.b.drop 1=[]:=dN oM
   simpa [this] using hd
  have e7:∀j,j<lo->H1.get j=Hs.get j:=J.eq;have a2:=aC4 K H1 F lo (QR Hs lo K true) rs el s x J.lo J.lt (J.st.mono (fun _ _=>rfl) (fun _ h=>h) (fun _ _ h=>h.mono e7 lR) iF) ((c8.upTo hk).mono e7 lR) hw.l0;rw[if_neg oM,if_neg oM,if_neg oM,if_neg oM,if_neg oM,if_neg oM,if_neg oM,if_neg oM,if_neg oM,i3];simp only[List.any_cons,List.any_nil,Bool.or_false];rw[kU];have a3:=eW (fun y=>M0 y x) s.paths 0;obtain⟨z,hz⟩:=eY (jj s.paths x);rw[<-hz]at a2 ⊢;rw[show ixG (fun y=>M0 y x) s.paths 0=z from hz.symm]at a3;rcases bz:decide (0<=z)with _|_
  .exact J15 E a1 D u.symm g4 S c9 W c5 a9 e5 a4 U a2 bz trivial
  have p0:=dT bz;have f1:z.toNat<s.paths.length:=by rcases a3 with q|q<;>omega
  have e6:∀j,F j->H1.get j=H.get j:=fun j hj=>s1.get j (hA.lt j hj);obtain⟨xb,p8,o3,n7,n4,h6,e9,_,rfl,n9,j4,m7,k7,j1,h9⟩:=(SlF.mono m3 e6 (fun _ h=>h) iF).row (i:=z.toNat) (by rw[hw.l2];exact f1);obtain⟨xp,np,op,cp,n5,n8,f0,_,rfl,o0,k0,m8,l3,j2,i0⟩:=(SlF.mono m2 e6 (fun _ h=>h) iF).row (i:=z.toNat) (by rw[hw.l1];exact f1);obtain rfl:h6=inE xb:=h9;obtain⟨_,_,_,_,e2,_⟩:=E1 i0;have d5:=j1 0 oM;have d6:=j2 1 oM;rw[e2]at d6;rw[Nat.add_zero]at d5;obtain⟨w1,w2,w3⟩:=hw.at_ z.toNat xp xb f0 e9;have p6:=w3.sa;have p7:=w3.st;have p5:=hw.nle;have eb:s.base.getD z.toNat 0=xb:=by rw[List.getD_eq_getElem?_getD,e9];rfl
  have ep:(s.progs.getD z.toNat ⟨0,0,0,[],[]⟩).sa=xp.sa:=by rw[List.getD_eq_getElem?_getD,f0];rfl
  rw[eb,ep,iY];obtain⟨bv,nv,ov,cv,n6,h7,l5,_,rfl,o6,k1,m9,l4,j3,i1⟩:=J.bi.row (i:=(xb+xp.sa).toNat) oM;obtain rfl:h7=wB bv:=i1;have g9:cv[ov+(xb+xp.sa).toNat*1]?=some (.int .u8 (if bv=true then 1 else 0)):=by have:=j3 0 oM;rw[Nat.add_zero]at this;exact this
  have h0:bs.getD (xb+xp.sa).toNat false=bv:=by rw[List.getD_eq_getElem?_getD,l5];rfl
  rw[h0];have p3:=hw.l1;have p4:=hw.l2;have db:decide ((if bv=true then(1:Int) else 0)=1)=bv:=by cases bv<;>rfl
  exact J25 E a1 D u.symm g4 S c9 W c5 a9 e5 a4 U a2 bz r1 r2 j4 d5 k0 d6 k1 g9 db @wrap_small trivial
 have d3:decide (q.op=11)=false:=decide_eq_false a9;rw[if_neg (by omega:¬(q.op=8\/q.op=9)),if_neg g1];by_cases o1:q.op=1
 .rw[if_pos o1];exact J7 E a1 D u.symm S W o1 trivial
 rw[if_neg o1];have b1:decide (q.op=1)=false:=decide_eq_false o1;by_cases o3:q.op=3
 .rw[if_neg oM,if_pos o3];rcases d:decide (e.kind=1)with _|_
  .exact J10 E a1 D u.symm S g6 W e0 o3 d trivial
  .exact J10 E a1 D u.symm S g6 W e0 o3 d trivial
 have b3:decide (q.op=3)=false:=decide_eq_false o3;by_cases o7:q.op=7
 .rw[if_neg oM,if_neg o3,if_neg oM,if_neg oM,if_neg oM,if_pos o7];rcases d:decide (e.kind=1)with _|_
  .exact J12 E a1 D u.symm S g6 W c3 e0 e4 o7 d trivial
  .exact J10 E a1 D u.symm S g6 W e0 o7 d trivial
 have b7:decide (q.op=7)=false:=decide_eq_false o7;have h8:∀(k:Int)(nm:NmQ),k≠1->∀l,(Y1 k nm l).2=false:=by
  intro k nm hk l;induction l with
  |nil=>rfl
  |cons a l ih=>
   rw[Y1];split
   .exact decide_eq_false hk
   .exact ih
 rcases d:decide (e.kind=1)with _|_
 .have c6:e.kind≠1:=dF d;have k6:(if q.op=2 then false else if q.op=3 then !false else if q.op=4 then false&&Q3 (e.space,e.loc) (q.sp,q.lc) else
    if q.op=5 then(Y1 e.kind (q.sp,q.lc) e.attrs).2 else if q.op=6 then(Y1 e.kind (q.sp,q.lc) e.attrs).2&&decide ((Y1 e.kind (q.sp,q.lc) e.attrs).1=q.vl) else if q.op=7 then !false&&decide (e.text=q.vl) else q.b.any (kU s bs))=false:=by
   rw[h8 _ _ c6];by_cases o2:q.op=2
   .rw[if_pos o2]
   .rw[if_neg o2,if_neg o3];by_cases o4:q.op=4
    .rw[if_pos o4];rfl
    .rw[if_neg o4];by_cases o5:q.op=5
     .rw[if_pos o5]
     .rw[if_neg o5,if_pos oM];rfl
  rw[k6];exact J16 E a1 D u.symm S g6 W e0 b1 b3 b7 b8 b9 X d3 d trivial
 have c6:e.kind=1:=dT d;by_cases o4:q.op=4
 .rw[if_neg oM,if_neg o3,if_pos o4];exact J12 E a1 D u.symm S g6 W d4 e0 e1 o4 d trivial
 have b4:decide (q.op=4)=false:=decide_eq_false o4;rw[if_neg o3,if_neg o4,if_neg o7,c6];refine J17 E a1 D u.symm S g6 W e0 b1 b3 b4 b7 b8 b9 X d3 d ?_;refine l9 (F:=fun z=>u5 _ _ _ (u7 (inBlock 2 z) _)=_) (ar1 H1 F (H.next+1) (H.next+2) cs re S g6 q.op (q.sp,q.lc) q.vl W d4 c3 d1 d2 e.attrs e3 (d8.mono (fun j hj=>s1.get j (hA.lt j hj)) (fun _ h=>h) iF) a7 (if 5<=q.op then am6 q.op (q.sp,q.lc) q.vl e.attrs else none) (e.attrs.length-0) _ _ ⟨0,rfl,Nat.zero_le _,rfl,rfl,rfl,rfl,rfl⟩) ?_;rw[ao8];rintro o e' H' ⟨rfl,⟨ho,I,k5⟩|⟨bb,ho,I,l8⟩⟩
 .by_cases o2:q.op=2
  .rw[if_pos o2];exact J5 ho k5 S W o2 trivial
  .rw[if_neg o2];have b2:decide (q.op=2)=false:=decide_eq_false o2;rw[if_pos oM]at I;have hf:(Y1 1 (q.sp,q.lc) e.attrs).2=false:=by
    cases h:(Y1 1 (q.sp,q.lc) e.attrs).2 with
    |false=>rfl
    |true=>rw[h]at I;cases I
   rw[hf];simp only[Bool.false_and,ite_self];have hq:(if q.op=5 then false else if q.op=6 then false else q.b.any (kU s bs))=false:=by
    by_cases o5:q.op=5
    .rw[if_pos o5]
    .rw[if_neg o5,if_pos oM]
   rw[hq];exact J5 ho k5 S W b2 trivial
 .have h5:5<=q.op:=by
   by_cases h5:5<=q.op
   .exact h5
   .rw[if_neg h5]at I;cases I
  rw[if_pos h5]at I;have hf:(Y1 1 (q.sp,q.lc) e.attrs).2=true:=by
   cases h:(Y1 1 (q.sp,q.lc) e.attrs).2 with
   |true=>rfl
   |false=>rw[h]at I;cases I
  rw[hf]at I ⊢;simp only[if_true,Option.some.injEq]at I;rw[if_neg oM];have hq:(if q.op=5 then true else if q.op=6 then true&&decide ((Y1 1 (q.sp,q.lc) e.attrs).1=q.vl) else q.b.any (kU s bs))=bb:=by
   by_cases o5:q.op=5
   .rw[if_pos o5,<-I,o5];rfl
   .rw[if_neg o5,if_pos oM,<-I,decide_eq_false o5];rfl
  rw[hq];exact J2 ho l8 trivial
theorem aq9(h:d9)(lo K:Nat):∀k,k<=K+1->al4 h lo K k:=by
 intro k;induction k with
 |zero=>intro _ H s e bs F J I z D cs q _ _ _ u;exact u.elim
 |succ k y=>intro E;exact ap6 h lo K k oM (y oM)
structure EnS(v4 v5 v6 v7 v8 v9 v10 v11:Value)(e:Env):Prop where
 g4:e.get 4=v4
 g5:e.get 5=v5
 g6:e.get 6=v6
 g7:e.get 7=v7
 g8:e.get 8=v8
 g9:e.get 9=v9
 g10:e.get 10=v10
 g11:e.get 11=v11
theorem aq2(Hs:d9)(lo K:Nat)(s:StD)(y:EvD)(bs:List Bool)(F:Nat->Prop)(u:d9)(O J:LV)(U:Option Addr)(W:Nat)(X:aq4 Hs lo K s y bs F u O J U W)(hw:WfS s bs.length)(a7:y.attrs.length<=1000000)
  (ps pe pm:Nat) (gs:u.get ps=cE O 1) (ge:u.get pe=cE J 1) (rp:LV) (gm:u.get pm=cE rp 1) (va:Option Addr) (ca:Nat) (l:List Q) (p4:rp[4]?=some (.slice va l.length ca)) (hv:SlF u F 6 (QR Hs lo K true) (.slice va l.length ca) l) (hn:l.length<=1000000) (b0:∀x∈l,OkD true x) (v6 v7 v8 S:Value):
  ∀kk e H2,(∃(i:Nat)(w:Value),kk=l.length-i/\i<=l.length/\EnS (pT ps) (pT pe) v6 v7 v8 (.slice U bs.length W) S (pT pm) e/\e.get 12=w/\e.get 13=iV i/\i4 u.next u H2/\t7 H2 u.next 1 (R1 boE) w ((l.take i).map (R7 s y bs)))->
  u9 (LE prog O8 (.loop Pu) e H2) (fun o e H2=>o= .exit 2/\EnS (pT ps) (pT pe) v6 v7 v8 (.slice U bs.length W) S (pT pm) e/\i4 u.next u H2/\∃w,e.get 12=w/\t7 H2 u.next 1 (R1 boE) w (l.map (R7 s y bs))):=by
 refine j7 _ _ ?_;rintro kk e H2 ⟨i,w,hk,hi,h,f12,f13,z,hO⟩;have b8:=z.next;have D:=(z.get pm (u6 gm)).trans gm;have a2:=(z.get ps (u6 gs)).trans gs;have a1:=(z.get pe (u6 ge)).trans ge;rcases b:decide ((i:Int)<l.length)with _|_
 .have a8:=dF b;have:l.take i=l:=List.take_of_length_le oM;rw[this]at hO;refine J5 h.g11 f13 D p4 b ?_;exact l7 ⟨rfl,⟨h.g4,h.g5,h.g6,h.g7,h.g8,h.g9,h.g10,h.g11⟩,z,w,f12,hO⟩
 have a8:=dT b;obtain⟨x,nb,o,cs,own,el,hx,hd,rfl,a3,hg,b7,I,hc,hR⟩:=hv.row (i:=i) oM;have nt:(i:Int).toNat=i:=tN i;have g2:=(z.get nb (X.lt _ a3)).trans hg;have b5:ldC (some true) (some 8) 0 O=some (.agg O.toArray):=by
  obtain⟨pa,pc,ga,gc,xa,xc,ea,ec,ta,tc,b2,_⟩:=N3 X.st;rw[b2];rfl
 have b4:ldC (some true) (some 5) 0 J=some (.agg J.toArray):=by
  obtain⟨av,b1,b6⟩:=X.ev;rw[b1];rfl
 have a9:=aq9 Hs lo K K oM H2 s y bs F O J U W el x (X.work z) hw a7 hR (b0 x (mG hx));have b3:(l.take (i+1)).map (R7 s y bs)=(l.take i).map (R7 s y bs)++[R7 s y bs x]:=by rw[List.take_add_one,hx,List.map_append];rfl
 obtain⟨w4,h4,H4,a6,E,a5,a4⟩:=hO.push1F (P:=prog) (t:=83) (cs:=boE (R7 s y bs x)) (a:=R7 s y bs x) (by exact XY.2.2.2.2.2.2) ty4.1 ty4.2.1 ty4.2.2.1 oM oM rfl rfl (by simp;omega) oM;refine J20 h.g4 h.g5 h.g9 h.g11 f12 f13 b D a2 a1 p4 b5 b4 g2 nt I a9 a6 E @wrap_small ?_;exact i6 (kk-1) oM ⟨i+1,w4,oM,oM,⟨h.g4,h.g5,h.g6,h.g7,h.g8,h.g9,h.g10,h.g11⟩,rfl,by rw[show((i+1:Nat):Int)=(i:Int)+1 from oM];rfl,z.trans a4.stay,by rw[b3];exact a5⟩
def an3(fi ne:SoD)(b:Int)(x:EdD):Bool:=(decide (x.2.2.1=1)&&vz fi (b+x.2.1))||(decide (x.2.2.1=2)&&vz ne (b+x.2.1))
theorem ap5(y:d9)(F:Nat->Prop)(hF:∀j,F j->j<y.next) (Rp Rt:LV->Q->Prop) (s:StD) (rs:LV) (hs:StF y F Rp Rt rs s) (fi ne:SoD) (n:Nat) (hn:n<=1000000) (d2:fm fi n) (d6:fm ne n) (ps pf pn pm:Nat) (gs:y.get ps=cE rs 1) (gf:y.get pf=cE (soE fi) 1) (gn:y.get pn=cE (soE ne) 1)
  (rp:LV) (gm:y.get pm=cE rp 1) (i:Nat) (b:Int) (b3:s.base[i]?=some b) (hi:i<=1000000) (hb:0<=b/\b<=1000000) (st:Int) (h8:b+st<=n) (va:Option Addr) (ca:Nat) (l:List EdD) (p3:rp[3]?=some (.slice va l.length ca)) (hv:SlF y F 4 (R1 edE) (.slice va l.length ca) l) (hl:l.length<=1000000) (hw:∀x∈l,0<=x.1/\x.1<st/\0<=x.2.1/\x.2.1<st)
  (G:Nat->Prop) (hG:∀j,G j->j<y.next) (cl:List Bool) (ka:Option Addr) (kc:Nat) (d1:SlF y G 1 (R1 boE) (.slice ka cl.length kc) cl) (g2:(cl.length:Int)=st) (v5 v8 v9 a3 a4:Value) (r:Bool):
  ∀kk e H2,(∃(j:Nat)(ok:Bool),kk=l.length-j/\j<=l.length/\EnS (pT ps) v5 (pT pf) (pT pn) v8 v9 (.int .i64 i) (pT pm) e/\e.get 12=a3/\e.get 14=a4/\e.get 15= .slice ka cl.length kc/\e.get 16= .bool ok/\e.get 17=iV j/\i4 y.next y H2/\(ok||(l.drop j).any fun x=>cl.getD x.1.toNat false&&an3 fi ne b x)=r)->
  u9 (LE prog O8 (.loop Pv) e H2) (fun o e H2=>o= .exit 6/\EnS (pT ps) v5 (pT pf) (pT pn) v8 v9 (.int .i64 i) (pT pm) e/\e.get 12=a3/\e.get 14=a4/\e.get 16= .bool r/\i4 y.next y H2):=by
 refine j7 _ _ ?_;rintro kk e H2 ⟨j,ok,hk,hj,h,f12,f14,f15,f16,f17,hS,z⟩;have h0:=hS.next;have D:=(hS.get pm (u6 gm)).trans gm;rcases bj:decide ((j:Int)<l.length)with _|_
 .have c8:=dF bj;have:l.drop j=[]:=dN oM;rw[this,List.any_nil,Bool.or_false]at z;refine J5 h.g11 f17 D p3 bj ?_;exact l7 ⟨rfl,⟨h.g4,h.g5,h.g6,h.g7,h.g8,h.g9,h.g10,h.g11⟩,f12,f14,by rw[<-z];exact f16,hS⟩
 have c8:=dT bj;have W:(j:Int).toNat=j:=tN j;have a8:(i:Int).toNat=i:=tN i;obtain⟨x,nb,o,cs,own,el,hx,hd,rfl,c4,hg,g3,u,g1,E⟩:=hv.row (i:=j) oM;have E:el=edE x:=E;obtain⟨w1,w2,w3,w4⟩:=hw x (mG hx);have gx:=(hS.get nb (hF _ c4)).trans hg;have a1:el.all oC=true:=by rw[E];rfl
 have l1:el.length=4:=by rw[E];rfl
 have e0:el[0]?=some (.int .i64 x.1):=by rw[E];rfl
 have e1:el[1]?=some (.int .i64 x.2.1):=by rw[E];rfl
 have e2:el[2]?=some (.int .i64 x.2.2.1):=by rw[E];rfl
 obtain⟨H3,U,n3,S,s3⟩:=pushP H2 (bC [iV 0,iV 0,iV 0,iV 0] 1) (bC el 1);have X:splice [iV 0,iV 0,iV 0,iV 0] 0 el=el:=w7 _ _ (by rw[l1];rfl);have I:i4 y.next y H3:=hS.trans (s3.weaken oM);have a7:=(I.get ps (u6 gs)).trans gs;have b1:=(I.get pf (u6 gf)).trans gf;have b2:=(I.get pn (u6 gn)).trans gn;obtain⟨pa,pc,ga,gc,xa,xc,ea,ec,ta,tc,e5,m1,m2,m3,_⟩:=N3 hs;have r2:rs[2]?=some (.slice xa s.base.length xc):=by rw[e5];rfl
 have d5:=(gS b3).1;obtain⟨xb,e7,o3,b7,f0,b9,b4,_,rfl,c3,d3,e8,d8,c9,c6⟩:=m3.row (i:=i) d5;obtain rfl:b9=inE xb:=c6;rw[b3]at b4;cases b4;have a5:b7[o3+i*1]?=some (.int .i64 b):=by have:=c9 0 oM;rw[Nat.add_zero]at this;exact this
 have a6:=(I.get e7 (hF _ c3)).trans d3;obtain⟨cv,nk,b0,ck,f1,c0,e6,_,rfl,c5,d4,e9,e4,d0,c7⟩:=d1.row (i:=x.1.toNat) oM;obtain rfl:c0=boE cv:=c7;have J:ck[b0+x.1.toNat*1]?=some (.bool cv):=by have:=d0 0 oM;rw[Nat.add_zero]at this;exact this
 have O:=(I.get nk (hG _ c5)).trans d4;have b8:cl.getD x.1.toNat false=cv:=by rw[List.getD_eq_getElem?_getD,e6];rfl
 have c1:=au3 H3 fi (b+x.2.1) n d2 oM oM;have c2:=au3 H3 ne (b+x.2.1) n d6 oM oM;have b5:ldC (some true) (some 3) 0 (soE fi)=some (.agg (soE fi).toArray):=rfl;have b6:ldC (some true) (some 3) 0 (soE ne)=some (.agg (soE ne).toArray):=rfl;have f2:decide (x.1<(cl.length:Int))=true:=decide_eq_true oM;have g0:decide ((i:Int)<s.base.length)=true:=decide_eq_true oM;rw[hd,List.any_cons,b8,an3]at z;cases cv with
 |false=>
  simp only[Bool.false_and,Bool.false_or]at z;refine J18 h.g11 f15 f17 D p3 bj gx W u a1 l1 X U.symm S e0 O J @wrap_small ?_;exact i6 (kk-1) oM ⟨j+1,ok,oM,oM,⟨h.g4,h.g5,h.g6,h.g7,h.g8,h.g9,h.g10,h.g11⟩,f12,f14,f15,f16,by rw[show((j+1:Nat):Int)=(j:Int)+1 from oM];rfl,I,z⟩
 |true=>
  simp only[Bool.true_and]at z;have a2:∀(a9:Bool)(e3:Env),EnS (pT ps) v5 (pT pf) (pT pn) v8 v9 (.int .i64 i) (pT pm) e3->e3.get 12=a3->e3.get 14=a4->e3.get 15= .slice (some ⟨nk,b0,none⟩) cl.length kc->e3.get 16= .bool a9->e3.get 17=iV ((j+1:Nat):Int)->(a9||(l.drop (j+1)).any fun x=>cl.getD x.1.toNat false&&an3 fi ne b x)=r->
    dy kk (fun kk e H2=>∃(j:Nat)(ok:Bool),kk=l.length-j/\j<=l.length/\EnS (pT ps) v5 (pT pf) (pT pn) v8 v9 (.int .i64 i) (pT pm) e/\e.get 12=a3/\e.get 14=a4/\e.get 15= .slice (some ⟨nk,b0,none⟩) cl.length kc/\e.get 16= .bool ok/\e.get 17=iV j/\i4 y.next y H2/\(ok||(l.drop j).any fun x=>cl.getD x.1.toNat false&&an3 fi ne b x)=r) (fun o e H2=>o= .exit 6/\EnS (pT ps) v5 (pT pf) (pT pn) v8 v9 (.int .i64 i) (pT pm) e/\e.get 12=a3/\e.get 14=a4/\e.get 16= .bool r/\i4 y.next y H2) .normal e3 H3:=
   fun a9 e3 h1 h2 h3 h4 h5 h6 h7=>i6 (kk-1) oM ⟨j+1,a9,oM,oM,h1,h2,h3,h4,h5,h6,I,h7⟩
  have ej:((j+1:Nat):Int)=(j:Int)+1:=oM;rcases k1:decide (x.2.2.1=1)with _|_
  .rcases k2:decide (x.2.2.1=2)with _|_
   .simp only[k1,k2,Bool.false_and,Bool.or_self,Bool.false_or]at z;refine J21 h.g11 f15 f17 D p3 bj gx W u a1 l1 X U.symm S e0 e2 O J k1 k2 @wrap_small ?_;exact a2 ok _ ⟨h.g4,h.g5,h.g6,h.g7,h.g8,h.g9,h.g10,h.g11⟩ f12 f14 f15 f16 (by rw[ej];rfl) z
   .simp only[k1,k2,Bool.false_and,Bool.true_and,Bool.false_or]at z;rcases g:vz ne (b+x.2.1)with _|_
    .rw[g]at c2;simp only[g,Bool.false_or]at z;refine J30 h.g4 h.g7 h.g10 h.g11 f15 f17 D p3 bj gx W a8 u a1 l1 X U.symm S e0 e1 e2 O J k1 k2 a7 r2 (aI a6 a5) (aI b2 b6) (aI c2 @wrap_small) ?_;exact a2 ok _ ⟨h.g4,h.g5,h.g6,h.g7,h.g8,h.g9,h.g10,h.g11⟩ f12 f14 f15 f16 (by rw[ej];rfl) z
    .rw[g]at c2;simp only[g,Bool.true_or,Bool.or_true]at z;refine J30 h.g4 h.g7 h.g10 h.g11 f15 f17 D p3 bj gx W a8 u a1 l1 X U.symm S e0 e1 e2 O J k1 k2 a7 r2 (aI a6 a5) (aI b2 b6) (aI c2 @wrap_small) ?_;exact a2 true _ ⟨h.g4,h.g5,h.g6,h.g7,h.g8,h.g9,h.g10,h.g11⟩ f12 f14 f15 rfl (by rw[ej];rfl) (by rw[Bool.true_or];exact z)
  .have k2:decide (x.2.2.1=2)=false:=decide_eq_false (oN (dT k1));simp only[k1,k2,Bool.false_and,Bool.true_and,Bool.or_false]at z;rcases g:vz fi (b+x.2.1)with _|_
   .rw[g]at c1;simp only[g,Bool.false_or]at z;refine J30 h.g4 h.g6 h.g10 h.g11 f15 f17 D p3 bj gx W a8 u a1 l1 X U.symm S e0 e1 e2 O J k1 k2 a7 r2 (aI a6 a5) (aI b1 b5) (aI c1 @wrap_small) ?_;exact a2 ok _ ⟨h.g4,h.g5,h.g6,h.g7,h.g8,h.g9,h.g10,h.g11⟩ f12 f14 f15 f16 (by rw[ej];rfl) z
   .rw[g]at c1;simp only[g,Bool.true_or,Bool.or_true]at z;refine J30 h.g4 h.g6 h.g10 h.g11 f15 f17 D p3 bj gx W a8 u a1 l1 X U.symm S e0 e1 e2 O J k1 a7 r2 a6 a5 (aI b1 b5) (aI c1 @wrap_small) ?_;exact a2 true _ ⟨h.g4,h.g5,h.g6,h.g7,h.g8,h.g9,h.g10,h.g11⟩ f12 f14 f15 rfl (by rw[ej];rfl) (by rw[Bool.true_or];exact z)
structure Fr2(pb:Nat)(H H':d9):Prop where
 stay:i4 pb H H'
 but:∀j,j<H.next->j≠pb->H'.get j=H.get j
theorem Fr2.refl(h:Nat)(H:d9):Fr2 h H H:=⟨i4.refl _ _,fun _ _ _=>rfl⟩
theorem Fr2.trans{u:Nat}{A B C:d9}(h:Fr2 u A B)(k:Fr2 u B C):Fr2 u A C:=⟨h.stay.trans k.stay,fun j z y=>by rw[k.but j (oN (h.stay.next)) y,h.but j z y]⟩
theorem Fr2.of{u:Nat}{H H':d9}(h:i4 H.next H H')(z:u<=H.next):Fr2 u H H':=⟨h.weaken z,fun j y _=>h.get j y⟩
theorem Fr2.put{h:Nat}{H:d9}{B:Blk}:Fr2 h H (H.put h B):=⟨i4.put lR,fun j _ u=>i9 (fun q=>u q.symm)⟩
def okR(fi ne:SoD)(hs:List Bool)(p:PrD)(b:Int)(q:Nat):Bool:=(ak9 hs p q).getD p.en.toNat false||p.ed.any fun x=>(ak9 hs p q).getD x.1.toNat false&&an3 fi ne b x
def an9(f:Nat->Bool)(b:Int):Nat->Nat->List Bool->List Bool
 |0,_,bs=>bs
 |k+1,q,bs=>an9 f b k (q+1) (if f q then bs.set (b+q).toNat true else bs)
theorem aq0(f:Nat->Bool)(b:Int):∀(k q:Nat)(bs:List Bool),(an9 f b k q bs).length=bs.length
 |0,_,bs=>rfl
 |k+1,q,bs=>by
  rw[an9,aq0 f b k];split<;>simp
theorem ao6(J:d9)(F:Nat->Prop)(y:Nat)(hF:∀j,F j->j<J.next/\j≠y) (Rp Rt:LV->Q->Prop) (s:StD) (rs:LV) (hs:StF J F Rp Rt rs s) (fi ne:SoD) (n:Nat) (hn:n<=1000000) (e6:fm fi n) (g1:fm ne n) (ps pf pn pm:Nat) (gs:J.get ps=cE rs 1) (gf:J.get pf=cE (soE fi) 1) (gn:J.get pn=cE (soE ne) 1) (k3:y<J.next) (D:ps≠y/\pf≠y/\pn≠y/\pm≠y)
  (rp:LV) (p:PrD) (hp:PrF J F Rt rp p) (gm:J.get pm=cE rp 1) (i:Nat) (b:Int) (a8:s.base[i]?=some b) (hi:i<=1000000) (hb:0<=b/\b<=1000000) (h2:b+p.st<=n) (hw:PWf p) (hl:p.ed.length<=1000000)
  (G:Nat->Prop) (hG:∀j,G j->j<J.next/\j≠y) (E:List Bool) (ha:Option Addr) (hc:Nat) (hh:SlF J G 1 (R1 boE) (.slice ha E.length hc) E) (h3:E.length=p.ts.length) (v5 v8:Value) (r:List Bool):
  ∀kk e H2,(∃(q:Nat)(bs:List Bool),kk=p.st.toNat-q/\q<=p.st.toNat/\EnS (pT ps) v5 (pT pf) (pT pn) v8 (sL y n (n+1)) (.int .i64 i) (pT pm) e/\e.get 12= .slice ha E.length hc/\e.get 14=iV q/\bs.length=n/\H2.get y=cE (bs.map az9) 1/\Fr2 y J H2/\an9 (okR fi ne E p b) b (p.st.toNat-q) q bs=r)->
  u9 (LE prog O8 (.loop Pw) e H2) (fun o e H2=>o= .exit 4/\EnS (pT ps) v5 (pT pf) (pT pn) v8 (sL y n (n+1)) (.int .i64 i) (pT pm) e/\r.length=n/\H2.get y=cE (r.map az9) 1/\Fr2 y J H2):=by
 refine j7 _ _ ?_;rintro kk e H2 ⟨q,bs,hk,hq,I,f12,f14,a1,gb,X,W⟩;obtain⟨ea,ec,ta,tc,a2,e5,k1⟩:=E1 hp;have p0:rp[0]?=some (.int .i64 p.st):=by rw[a2];rfl
 have p2:rp[2]?=some (.int .i64 p.en):=by rw[a2];rfl
 have p3:rp[3]?=some (.slice ea p.ed.length ec):=by rw[a2];rfl
 have h7:ldC (some true) (some 5) 0 rp=some (.agg rp.toArray):=by rw[a2];rfl
 have b2:=(X.but pm (u6 gm) D.2.2.2).trans gm;have n2:=X.stay.next;have i3:=hw.st;have k2:=hw.en;rcases bq:decide ((q:Int)<p.st)with _|_
 .have e2:=dF bq;rw[show p.st.toNat-q=0 from oM,an9]at W;refine J5 I.g11 f14 b2 p0 bq ?_;exact l7 ⟨rfl,⟨I.g4,I.g5,I.g6,I.g7,I.g8,I.g9,I.g10,I.g11⟩,by rw[<-W];exact a1,by rw[<-W];exact gb,X⟩
 have e2:=dT bq;rw[show p.st.toNat-q=(p.st.toNat-(q+1))+1 from oM,an9]at W;obtain⟨H3,d6,n3,g3,s3⟩:=pushE H2 (bC [iV q] 1);have a6:Fr2 y J H3:=X.trans (Fr2.of s3 oM);have d5:∀j,(F j\/G j\/j=H2.next)->j<H3.next:=by
  rintro j (h|h|h)
  .have:=hF j h;omega
  .have:=hG j h;omega
  .omega
 have h5:=ay7 H3 (fun j=>F j\/G j\/j=H2.next) Rt rp p d5
  (hp.mono (fun j S=>a6.but j (hF j S).1 (hF j S).2) (fun _ h=> .inl h) iF) p.st.toNat oM oM hl q oM (sP H2.next) 1 (.inr ⟨H2.next,0,1,rfl,.inr ⟨_,true,.inr (.inr rfl),g3,by simp,fun i a ha=>by
   have f0:i=0:=by have:=(gS ha).1;simp at this;omega
   subst f0;have:a=(q:Int):=by simpa using ha.symm
   subst this;rfl⟩⟩) ha hc E (hh.mono (fun j S=>a6.but j (hG j S).1 (hG j S).2) (fun _ h=> .inr (.inl h)) iF) (fun x hx=>by have:=hw.ed x hx;rw[h3];exact this)
 obtain⟨cv,ch,H4,b5,e8,hO,s4⟩:=h5;obtain⟨ka,kc,rfl⟩:=hO.slice;obtain⟨cl,a9⟩:=eY (ak9 E p q);rw[<-a9]at hO b5;have h6:(cl.length:Int)=p.st:=by rw[a9,ak9,ar3,List.length_set,List.length_replicate];omega
 have n4:=s4.next;have O:Fr2 y J H4:=a6.trans (Fr2.of s4 oM);obtain⟨xv,nk,c0,ck,j1,c8,h4,_,g0,k0,e9,i2,h0,e4,e1⟩:=hO.sl.row (i:=p.en.toNat) oM;obtain rfl:c8=boE xv:=e1;subst g0;have c5:ck[c0+p.en.toNat*1]?=some (.bool xv):=by have:=e4 0 oM;rw[Nat.add_zero]at this;exact this
 have c9:cl.getD p.en.toNat false=xv:=by rw[List.getD_eq_getElem?_getD,h4];rfl
 have b3:=(O.but pm (u6 gm) D.2.2.2).trans gm;have b6:∀j,F j->H4.get j=J.get j:=fun j S=>O.but j (hF j S).1 (hF j S).2;have j2:decide (p.en<(cl.length:Int))=true:=decide_eq_true oM;obtain⟨ob,b7⟩:=eY (okR fi ne E p b q);have b8:(xv||p.ed.any fun x=>cl.getD x.1.toNat false&&an3 fi ne b x)=ob:=by rw[b7,okR,<-a9,c9]
 refine J14 I.g11 f12 f14 b2 p0 p2 h7 bq d6.symm b5 e8 b3 e9 c5 ?_;refine l9 (F:=fun z=>u9 (u7 (inBlock 5 (u7 (inBlock 6 z) _)) _) _) (ap5 H4 F (fun j S=>by have:=hF j S;omega) Rp Rt s rs (hs.mono b6 (fun _ h=>h) iF iF) fi ne n hn e6 g1 ps pf pn pm ((O.but ps (u6 gs) D.1).trans gs) ((O.but pf (u6 gf) D.2.1).trans gf) ((O.but pn (u6 gn) D.2.2.1).trans gn) rp b3 i b a8 hi hb p.st h2 ea ec p.ed p3 (e5.mono b6 (fun _ h=>h) iF) hl (fun x hx=>by have:=hw.ed x hx;exact⟨this.1,this.2.1,this.2.2.1,this.2.2.2.1⟩) (· <H4.next) (fun _ h=>h) cl (some ⟨nk,c0,none⟩) kc hO.sl.slF h6 v5 v8 (sL y n (n+1)) (.slice ha E.length hc) (.int .i64 q) ob (p.ed.length-0) _ _ ⟨0,xv,rfl,Nat.zero_le _,⟨I.g4,I.g5,I.g6,I.g7,I.g8,I.g9,I.g10,I.g11⟩,f12,f14,rfl,rfl,rfl,i4.refl _ _,b8⟩) ?_;rintro o' e' H5 ⟨ho,u,a3,a4,a5,s5⟩;have n5:=s5.next;have U:Fr2 y J H5:=O.trans (Fr2.of s5 oM);have b1:H5.get y=cE (bs.map az9) 1:=((s5.get y oM).trans (s4.get y oM)).trans ((s3.get y oM).trans gb);have b0:((q+1:Nat):Int)=(q:Int)+1:=oM;rw[<-b7]at W;cases ob with
 |false=>
  simp only[bF]at W;refine J4 ho a5 a4 @wrap_small ?_;exact i6 (kk-1) oM ⟨q+1,bs,oM,oM,⟨u.g4,u.g5,u.g6,u.g7,u.g8,u.g9,u.g10,u.g11⟩,a3,by rw[b0];rfl,a1,b1,U,W⟩
 |true=>
  simp only[if_true]at W;have h9:(i:Int).toNat=i:=tN i;obtain⟨pa,pc,ga,gc,xa,xc,j3,j4,k4,k5,h1,m1,m2,m3,_⟩:=N3 hs;have r2:rs[2]?=some (.slice xa s.base.length xc):=by rw[h1];rfl
  have f1:=(gS a8).1;obtain⟨xb,h8,o3,c6,j0,c7,b9,_,rfl,b4,e7,i1,g2,e3,d8⟩:=m3.row (i:=i) f1;obtain rfl:c7=inE xb:=d8;rw[a8]at b9;cases b9;have c4:c6[o3+i*1]?=some (.int .i64 b):=by have:=e3 0 oM;rw[Nat.add_zero]at this;exact this
  have d2:=(U.but h8 (hF _ b4).1 (hF _ b4).2).trans e7;have d4:=(U.but ps (u6 gs) D.1).trans gs;have i0:decide ((i:Int)<s.base.length)=true:=decide_eq_true oM;have bl:(bs.map az9).length=n:=by rw[List.length_map];exact a1
  have f2:(b+(q:Int)).toNat*1+1<=n:=oM;have d1:decide (b+(q:Int)<n)=true:=decide_eq_true oM;have d0:decide (0<=b+(q:Int))=true:=decide_eq_true oM;obtain⟨H6,a7⟩:=eY (H5.put y (.cells ((bs.map az9).set ((b+(q:Int)).toNat*1) (.int .u8 1)) true 1));have d3:H6.get y=some (.cells ((bs.set (b+(q:Int)).toNat true).map az9) true 1):=by rw[a7,i8 oM,Nat.mul_one,List.map_set];rfl
  have c3:Fr2 y J H6:=U.trans (by rw[a7];exact Fr2.put);refine J16 ho a5 a4 u.g4 u.g9 u.g10 d4 r2 h9 d2 c4 b1 bl f2 a7.symm @wrap_small ?_;exact i6 (kk-1) oM ⟨q+1,_,oM,oM,⟨u.g4,u.g5,u.g6,u.g7,u.g8,u.g9,u.g10,u.g11⟩,a3,by rw[b0];rfl,by rw[List.length_set];exact a1,d3,c3,W⟩
def al9(s:StD)(e:EvD)(fi ne:SoD)(p:PrD)(b:Int)(bs:List Bool):List Bool:=an9 (okR fi ne (p.ts.map (R7 s e bs)) p b) b p.st.toNat 0 bs
def He(s:StD)(e:EvD)(fi ne:SoD):List (PrD×Int)->List Bool->List Bool
 |[],bs=>bs
 |x::l,bs=>He s e fi ne l (al9 s e fi ne x.1 x.2 bs)
theorem an2(Hs:d9)(lo K:Nat)(s:StD)(X:EvD)(fi ne:SoD)(F:Nat->Prop)(D:d9)(y:Nat)(hF:∀j,F j->j<D.next/\j≠y) (rs re:LV) (hs:StF D F (QR Hs lo K false) (QR Hs lo K true) rs s) (he:EvF D F re X) (d0:∀j,j<lo->D.get j=Hs.get j) (h1:lo<=y) (n:Nat) (hw:WfS s n) (d1:fm fi n) (d8:fm ne n) (c7:X.attrs.length<=1000000)
  (b5:∀p∈s.progs,p.ts.length<=1000000/\p.ed.length<=1000000) (e4:∀p∈s.progs,∀t∈p.ts,OkD true t) (ps pe pf pn:Nat) (gs:D.get ps=cE rs 1) (ge:D.get pe=cE re 1) (gf:D.get pf=cE (soE fi) 1) (gn:D.get pn=cE (soE ne) 1) (h2:y<D.next) (u:ps≠y/\pe≠y/\pf≠y/\pn≠y) (v8:Value) (r:List Bool):
  ∀kk e H2,(∃(i:Nat)(bs:List Bool),kk=s.progs.length-i/\i<=s.progs.length/\e.get 4=pT ps/\e.get 5=pT pe/\e.get 6=pT pf/\e.get 7=pT pn/\e.get 8=v8/\e.get 9=sL y n (n+1)/\e.get 10=iV i/\bs.length=n/\H2.get y=cE (bs.map az9) 1/\Fr2 y D H2/\He s X fi ne ((s.progs.zip s.base).drop i) bs=r)->
  u9 (LE prog O8 (.loop Px) e H2) (fun o e H2=>o= .exit 0/\e.get 5=pT pe/\e.get 8=v8/\e.get 9=sL y n (n+1)/\r.length=n/\H2.get y=cE (r.map az9) 1/\Fr2 y D H2):=by
 refine j7 _ _ ?_;rintro kk e H2 ⟨i,bs,hk,hi,f4,f5,f6,f7,f8,f9,f10,S,gb,O,fu⟩;have g2:=hw.l1;have h0:=hw.l2;have g1:=hw.l0;have e1:=hw.nle;have n2:=O.stay.next;obtain⟨pa,pc,ga,gc,xa,xc,ea,ec,ta,tc,e5,m1,m2,m3,_⟩:=N3 hs;have r1:rs[1]?=some (.slice ga s.progs.length gc):=by rw[e5];rfl
 have b0:=(O.but ps (u6 gs) u.1).trans gs;rcases bi:decide ((i:Int)<s.progs.length)with _|_
 .have c8:=dF bi;have:(s.progs.zip s.base).drop i=[]:=dN (by rw[List.length_zip];omega);rw[this,He]at fu;refine J5 f4 f10 b0 r1 bi ?_;exact l7 ⟨rfl,f5,f8,f9,by rw[<-fu];exact S,by rw[<-fu];exact gb,O⟩
 have c8:=dT bi;have e6:(i:Int).toNat=i:=tN i;obtain⟨p,np,op,cp,e9,rp,a8,_,d2,b1,d4,e7,a6,f2,b3⟩:=m2.row (i:=i) oM;subst d2;obtain⟨b,a1⟩:∃b,s.base[i]?=some b:=⟨s.base[i]'oM,List.getElem?_eq_getElem oM⟩
 obtain⟨w1,w2,w3⟩:=hw.at_ i p b a8 a1;have e8:=w3.st;have a5:=mG a8;have a3:(s.progs.zip s.base).drop i=(p,b)::(s.progs.zip s.base).drop (i+1):=by
  have hz:(s.progs.zip s.base)[i]?=some (p,b):=by rw[List.getElem?_zip_eq_some];exact⟨a8,a1⟩
  obtain⟨d6,d3⟩:=gS hz;rw[List.drop_eq_getElem_cons d6,d3]
 rw[a3,He]at fu;simp only at fu;obtain⟨f0,f1,b8,b9,a7,g0,c9⟩:=E1 b3;have c0:rp.all oC=true:=by rw[a7];rfl
 have b6:rp.length=5:=by rw[a7];rfl
 have p4:rp[4]?=some (.slice b8 p.ts.length b9):=by rw[a7];rfl
 have c5:=(O.but np (hF _ b1).1 (hF _ b1).2).trans d4;obtain⟨H3,b2,n3,g3,s3⟩:=pushP H2 (bC z5 1) (bC rp 1);have b7:splice z5 0 rp=rp:=w7 _ _ (by rw[b6];rfl);simp only[z5]at b7 b2;have I:Fr2 y D H3:=O.trans (Fr2.of s3 oM);have a4:∀j,F j->H3.get j=D.get j:=fun j U=>I.but j (hF j U).1 (hF j U).2;have a9:H3.get y=cE (bs.map az9) 1:=(s3.get y oM).trans gb;have a2:SlF H3 (fun j=>F j\/j=y) 1 (R1 wB) (sL y bs.length (n+1)) bs:= .inr ⟨y,0,n+1,rfl,.inr ⟨_,true,.inr rfl,a9,by simp,fun i a ha=>by
  rw[Nat.zero_add,Nat.mul_one,List.drop_eq_getElem_cons (by simpa using (gS ha).1),List.take_succ_cons,List.take_zero];simp only[List.getElem_map];rw[(gS ha).2];rfl⟩⟩
 have c6:∀j,(F j\/j=y)->j<H3.next:=by
  rintro j (h|h)
  .have:=hF j h;omega
  .omega
 have hA:aq4 Hs lo K s X bs (fun j=>F j\/j=y) H3 rs re (sP y) (n+1):=⟨hs.mono a4 (fun _ h=> .inl h) iF iF,w9 _ _ _ _ _ _ he a4 (fun _ h=> .inl h),a2,c6,fun j U=>by rw[I.but j oM oM];exact d0 j U,oM⟩
 refine J12 f4 f10 b0 r1 bi e6 c5 a6 c0 b6 b7 b2.symm ?_;refine l9 (F:=fun z=>u9 (u7 (inBlock 1 (u7 (inBlock 2 z) _)) _) _) (aq2 Hs lo K s X bs (fun j=>F j\/j=y) H3 rs re (sP y) (n+1) hA (by rw[S];exact hw) c7 ps pe H2.next ((I.but ps (u6 gs) u.1).trans gs) ((I.but pe (u6 ge) u.2.1).trans ge) rp g3 b8 b9 p.ts p4 (c9.mono a4 (fun _ h=> .inl h) iF) (b5 p a5).1 (e4 p a5) (pT pf) (pT pn) v8 (.int .i64 i) (p.ts.length-0) _ _ ⟨0,nS,rfl,Nat.zero_le _,⟨f4,f5,f6,f7,f8,by rw[S];exact f9,f10,rfl⟩,rfl,rfl,i4.refl _ _,t7.nil⟩) ?_;rintro o' e' H4 ⟨ho,W,s4,w,f12,hO⟩;have n4:=s4.next;obtain⟨ha,hc,rfl⟩:=hO.slice;have J:Fr2 y D H4:=I.trans (Fr2.of s4 oM);have b4:∀j,F j->H4.get j=D.get j:=fun j U=>J.but j (hF j U).1 (hF j U).2;have c3:=(s4.get y oM).trans a9;rw[S]at W;refine J1 ho ?_;refine l9 (F:=fun z=>u9 (u7 (inBlock 1 (inBlock 4 z)) _) _) (ao6 H4 F y (fun j U=>by have:=hF j U;exact⟨oM,this.2⟩) (QR Hs lo K false) (QR Hs lo K true) s rs (hs.mono b4 (fun _ h=>h) iF iF) fi ne n e1 d1 d8 ps pf pn H2.next ((J.but ps (u6 gs) u.1).trans gs) ((J.but pf (u6 gf) u.2.2.1).trans gf) ((J.but pn (u6 gn) u.2.2.2).trans gn) oM ⟨u.1,u.2.2.1,u.2.2.2,oM⟩ rp p (b3.mono b4 (fun _ h=>h) iF) ((s4.get _ oM).trans g3) i b a1 oM ⟨w1,oM⟩ w2 w3 (b5 p a5).2
  (fun j=>j9 (.slice ha (p.ts.map (R7 s X bs)).length hc) j) (fun j U=>by have:=hO.lt U;omega) (p.ts.map (R7 s X bs)) ha hc (hO.frz fun _ h=>h) (by rw[List.length_map]) (pT pe) v8 (al9 s X fi ne p b bs) (p.st.toNat-0) _ _ ⟨0,bs,rfl,Nat.zero_le _,⟨W.g4,W.g5,W.g6,W.g7,W.g8,W.g9,W.g10,W.g11⟩,f12,rfl,S,c3,Fr2.refl _ _,rfl⟩) ?_
 rintro o2 e2 H5 ⟨e3,E,d5,c4,F5⟩;refine J3 e3 E.g10 @wrap_small ?_;exact i6 (kk-1) oM ⟨i+1,_,oM,oM,E.g4,E.g5,E.g6,E.g7,E.g8,E.g9,by rw[show((i+1:Nat):Int)=(i:Int)+1 from oM];rfl,d5,c4,J.trans F5,fu⟩
def an8(s:StD)(e:EvD)(fi ne:SoD):SoD:=(true,decide (e.kind=2),rU (He s e fi ne (s.progs.zip s.base) (List.replicate (y9 s.progs).toNat false)))
theorem ay6(Hs:d9)(lo K:Nat)(s:StD)(I:EvD)(fi ne:SoD)(F:Nat->Prop)(H:d9)(J X:LV)(hs:StF H F (QR Hs lo K false) (QR Hs lo K true) J s)(he:EvF H F X I)(hF:∀j,F j->j<H.next) (d4:∀j,j<lo->H.get j=Hs.get j) (g6:lo<=H.next) (n:Nat) (hn:(n:Int)=y9 s.progs) (hw:WfS s n) (d5:fm fi n) (d8:fm ne n)
  (d1:I.attrs.length<=1000000) (W:∀p∈s.progs,p.ts.length<=1000000/\p.ed.length<=1000000/\0<=p.st/\p.st<=1000000) (e3:∀p∈s.progs,∀t∈p.ts,OkD true t):
  CL prog O8 21 [.agg J.toArray,.agg X.toArray,.agg (soE fi).toArray,.agg (soE ne).toArray] H=some (.agg (soE (an8 s I fi ne)).toArray,none):=by
 obtain⟨pa,pc,ga,gc,xa,xc,ea,ec,ta,tc,c5,_⟩:=N3 hs;obtain⟨av,c4,d2⟩:=id he;obtain⟨e8,e9,rfl⟩:=d2.slice;have c8:J.all oC=true:=by rw[c5];rfl
 have ae:X.all oC=true:=by rw[c4];rfl
 have e4:ldC (some true) (some 8) 0 J=some (.agg J.toArray):=by rw[c5];rfl
 have e6:X[0]?=some (.int .i64 I.kind):=by rw[c4];rfl
 have g7:=hw.nle;have f0:=hw.l0;have g0:=hw.l1;obtain⟨f1,f2,f3⟩:=fi;obtain⟨g1,g2,g3⟩:=ne;obtain⟨fe,a4⟩:=eY (soE (f1,f2,f3));obtain⟨ge,a5⟩:=eY (soE (g1,g2,g3));rw[<-a4,<-a5];have af:fe.all oC=true:=by rw[a4];rfl
 have ag:ge.all oC=true:=by rw[a5];rfl
 obtain⟨z3,a7⟩:=eY ([.bool false,.bool false,.string eB]:LV);obtain⟨y,u⟩:=eY (((((d9.push ⟨H.bs,H.next⟩ (bC J 1)).push (bC X 1)).push (bC fe 1)).push (bC ge 1)).push (bC z3 1));have D:(d9.push ⟨H.bs,H.next⟩ (bC J 1)).next=H.next+1:=by rw[i5];rfl
 have n1:y.next=H.next+5:=by rw[u,i5,i5,i5,i5,D]
 have s1:i4 H.next H y:=by rw[u];exact((((i4.first H _).trans (i4.push oM)).trans (i4.push (by rw[i5];omega))).trans (i4.push (by rw[i5,i5];omega))).trans (i4.push (by rw[i5,i5,i5];omega))
 have a1:y.get H.next=cE J 1:=by
  rw[u,j6 (by simp only[i5,D];omega),j6 (by simp only[i5,D];omega),j6 (by simp only[i5,D];omega),j6 oM];exact i7
 have a8:y.get (H.next+1)=cE X 1:=by
  rw[u,j6 (by simp only[i5,D];omega),j6 (by simp only[i5,D];omega),j6 (by simp only[i5,D];omega)];exact R2 oM
 have a9:y.get (H.next+2)=cE fe 1:=by
  rw[u,j6 (by simp only[i5,D];omega),j6 (by simp only[i5,D];omega)];exact R2 (by simp only[i5,D];omega)
 have b0:y.get (H.next+3)=cE ge 1:=by
  rw[u,j6 (by simp only[i5,D];omega)];exact R2 (by simp only[i5,D];omega)
 have b1:y.get (H.next+4)=cE z3 1:=by
  rw[u];exact R2 (by simp only[i5,D];omega)
 have c0:H.next<=y.low:=by rw[u];simp only[O7];exact lR
 have d6:∀j,F j->y.get j=H.get j:=fun j U=>s1.get j (hF j U);have b7:=yp y F _ _ J s (fun j U=>by have:=hF j U;omega) (hs.mono d6 (fun _ h=>h) iF iF) oM (fun p hp=>⟨(W p hp).2.2.1,(W p hp).2.2.2⟩);rw[<-hn]at b7;obtain⟨H2,S,-,gb,E⟩:=pushE y (.cells ((List.replicate n false).map az9) true 1);have n2:H2.next=H.next+6:=by rw[S,i5,n1]
 have c3:V3 prog y 81 (.int .i64 n) (.int .i64 n)=some (sL y.next n (n+1),H2):=by
  have e1:(List.replicate n [Value.int .u8 0]).flatten=(List.replicate n false).map az9:=by
   rw[List.flatten_replicate_singleton,List.map_replicate];rfl
  simp only[V3,yP.2.2.2.2.2.1,ty5.2.2.1,ty5.2.1,Int.toNat_natCast,e1];rw[if_pos ⟨by decide,oM,Int.le_refl _,oM,oM⟩,S];rfl
 have b3:=(E.get _ oM).trans a1;have a2:=(E.get _ oM).trans a8;have b4:=(E.get _ oM).trans a9;have b5:=(E.get _ oM).trans b0;have b6:=(E.get _ oM).trans b1;have c7:i4 H.next H H2:=s1.trans (E.weaken oM);have b9:∀j,F j->H2.get j=H.get j:=fun j U=>c7.get j (hF j U);have c6:H.next<=H2.low:=by rw[S,O7];exact c0
 have e2:(y9 s.progs).toNat=n:=oM;rw[j8 az1 rfl _ sM,an8,e2];refine J10 c8 ae af ag a7.symm u.symm a1 e4 b7 c3 ?_;refine l9 (F:=fun z=>u5 _ _ _ (u7 (inBlock 0 z) _)=_) (an2 Hs lo K s I (f1,f2,f3) (g1,g2,g3) F H2 y.next (fun j U=>by have:=hF j U;omega) J X (hs.mono b9 (fun _ h=>h) iF iF) (w9 _ _ _ _ _ _ he b9 (fun _ h=>h)) (fun j U=>by rw[c7.get j oM];exact d4 j U) oM n hw d5 d8 d1 (fun p hp=>⟨(W p hp).1,(W p hp).2.1⟩) e3 H.next (H.next+1) (H.next+2) (H.next+3) b3 a2 (by rw[<-a4];exact b4) (by rw[<-a5];exact b5) oM ⟨oM,oM,oM,oM⟩ (pT (H.next+4)) (He s I (f1,f2,f3) (g1,g2,g3) (s.progs.zip s.base) (List.replicate n false)) (s.progs.length-0) _ _ ⟨0,List.replicate n false,rfl,Nat.zero_le _,rfl,rfl,rfl,rfl,rfl,rfl,rfl,List.length_replicate ..,gb,Fr2.refl _ _,by rw[List.drop_zero]⟩) ?_;rintro o e' H4 ⟨ho,k5,k8,k9,a6,b2,O⟩;obtain⟨bz,d3⟩:=eY (He s I (f1,f2,f3) (g1,g2,g3) (s.progs.zip s.base) (List.replicate n false));rw[<-d3]at a6 b2 ⊢;have n4:=O.stay.next;rw[<-a6]at k9;have b8:=wS H4 y.next bz (n+1) b2;have c9:H4.get (H.next+1)=cE X 1:=(O.but _ oM oM).trans a2;have d0:H4.get (H.next+4)=cE z3 1:=(O.but _ oM oM).trans b6;have e7:splice z3 0 [.bool true,.bool (decide (I.kind=2)),.string (rU bz)]=[.bool true,.bool (decide (I.kind=2)),.string (rU bz)]:=by rw[a7];rfl
 have e5:z3.length=3:=by rw[a7];rfl
 obtain⟨H5,a3⟩:=eY (H4.put (H.next+4) (bC [.bool true,.bool (decide (I.kind=2)),.string (rU bz)] 1));have g5:H5.get (H.next+4)=cE [.bool true,.bool (decide (I.kind=2)),.string (rU bz)] 1:=by rw[a3];exact i8 oM
 have g4:H.next<=H5.low:=by
  rw[a3,A4];have b:=(O.stay.weaken (show H.next<=y.next from oM)).low c6;omega
 clear a1 a8 a9 b0 b1 b3 a2 b4 b5 b6 c3 u S;rw[a6]at k9 b8;exact J12 ho k5 k8 k9 c9 e6 b8 d0 e5 e7 a3.symm g5 trivial
inductive am2(fi ne:SoD)(hs:List Bool)(p:PrD)(b:Int):Nat->Prop
 |en:am2 fi ne hs p b p.en.toNat
 |out (x:EdD) (hx:x∈p.ed) (h:an3 fi ne b x=true):am2 fi ne hs p b x.1.toNat
 |mv (x:EdD) (hx:x∈p.ed) (h:al3 hs x=true) (k:am2 fi ne hs p b x.2.1.toNat):am2 fi ne hs p b x.1.toNat
inductive Rch(hs:List Bool)(p:PrD)(q:Nat):Nat->Prop
 |refl:Rch hs p q q
 |step (x:EdD) (hx:x∈p.ed) (h:al3 hs x=true) (k:Rch hs p q x.1.toNat):Rch hs p q x.2.1.toNat
theorem Rch.lead{fi ne:SoD}{hs:List Bool}{p:PrD}{b:Int}{q z:Nat}(h:Rch hs p q z):am2 fi ne hs p b z->am2 fi ne hs p b q:=by
 induction h with
 |refl=>exact id
 |step x u h k y=>exact fun l=>y (.mv x u h l)
theorem Rch.head{hs:List Bool}{p:PrD}{x:EdD}(u:x∈p.ed)(h:al3 hs x=true){z:Nat}(k:Rch hs p x.2.1.toNat z):Rch hs p x.1.toNat z:=by
 induction k with
 |refl=>exact .step x u h .refl
 |step y D g k E=>exact .step y D g E
theorem as9{fi ne:SoD}{hs:List Bool}{p:PrD}{b:Int}{q:Nat}:am2 fi ne hs p b q↔∃z,Rch hs p q z/\(z=p.en.toNat\/∃x∈p.ed,x.1.toNat=z/\an3 fi ne b x=true):=by
 constructor
 .intro h;induction h with
  |en=>exact⟨_,.refl,.inl rfl⟩
  |out x u h=>exact⟨_,.refl,.inr ⟨x,u,rfl,h⟩⟩
  |mv x u h k E=>
   obtain⟨z,y,D⟩:=E;exact⟨z,y.head u h,D⟩
 .rintro⟨z,y,rfl|⟨x,u,rfl,h⟩⟩
  .exact y.lead .en
  .exact y.lead (.out x u h)
theorem xW(c:List Bool)(i j:Nat)(u:i<c.length):(c.set i true).getD j false=(decide (i=j)||c.getD j false):=by
 simp only[List.getD_eq_getElem?_getD,List.getElem?_set];by_cases h:i=j
 .subst h;simp [u]
 .simp [h]
theorem am1(hs:List Bool)(p:PrD)(q:Nat):∀(l:List EdD)(c:List Bool),(∀x∈l,x∈p.ed/\x.2.1.toNat<c.length)->(∀z,c.getD z false=true->Rch hs p q z)->∀z,(clP hs l c).getD z false=true->Rch hs p q z
 |[],c,_,hc=>hc
 |x::l,c,hl,hc=>by
  rw[clP];have E:=hl x sM;split
  .rename_i h;simp only[Bool.and_eq_true]at h;refine am1 hs p q l _ (fun y u=>⟨(hl y (by simp [u])).1,by rw[List.length_set];exact(hl y (by simp [u])).2⟩) fun z D=>?_;rw[xW _ _ _ E.2,Bool.or_eq_true,decide_eq_true_eq]at D;rcases D with rfl|D
   .exact .step x E.1 h.2 (hc _ h.1)
   .exact hc z D
  .exact am1 hs p q l c (fun y u=>hl y (by simp [u])) hc
theorem ao0(hs:List Bool)(p:PrD)(q:Nat):∀(n:Nat)(c:List Bool),(∀x∈p.ed,x.2.1.toNat<c.length)->(∀z,c.getD z false=true->Rch hs p q z)->∀z,(clI hs p.ed n c).getD z false=true->Rch hs p q z
 |0,c,_,hc=>hc
 |n+1,c,hl,hc=>by
  rw[clI];exact ao0 hs p q n _ (fun x h=>by rw[al8];exact hl x h) (am1 hs p q p.ed c (fun x h=>⟨h,hl x h⟩) hc)
theorem am9(hs:List Bool):∀(l:List EdD)(c:List Bool)(z:Nat),(∀x∈l,x.2.1.toNat<c.length)->c.getD z false=true->(clP hs l c).getD z false=true
 |[],c,z,_,h=>h
 |x::l,c,z,hl,h=>by
  rw[clP];split
  .refine am9 hs l _ z (fun y u=>by rw[List.length_set];exact hl y (by simp [u])) ?_;rw[xW _ _ _ (hl x sM),h,Bool.or_true]
  .exact am9 hs l c z (fun y u=>hl y (by simp [u])) h
theorem ap4(hs:List Bool)(l:List EdD):∀(n:Nat)(c:List Bool)(z:Nat),(∀x∈l,x.2.1.toNat<c.length)->c.getD z false=true->(clI hs l n c).getD z false=true
 |0,c,z,_,h=>h
 |n+1,c,z,hl,h=>by
  rw[clI];exact ap4 hs l n _ z (fun x u=>by rw[al8];exact hl x u) (am9 hs l c z hl h)
theorem ao4(hs:List Bool):∀(l:List EdD)(c:List Bool),(∀x∈l,x.2.1.toNat<c.length)->fD (clP hs l c)<=fD c/\(fD (clP hs l c)=fD c->clP hs l c=c/\∀x∈l,c.getD x.1.toNat false=true->al3 hs x=true->c.getD x.2.1.toNat false=true)
 |[],c,_=>⟨lR,fun _=>⟨rfl,fun x D=>by cases D⟩⟩
 |x::l,c,hl=>by
  rw[clP];have D:=hl x sM;rcases h:(c.getD x.1.toNat false&&al3 hs x)with _|_
  .simp only[bF];obtain⟨E,z⟩:=ao4 hs l c fun y u=>hl y (by simp [u]);refine⟨E,fun e=>⟨(z e).1,fun y u a b=>?_⟩⟩;rcases List.mem_cons.1 u with rfl|u
   .rw[a,b]at h;cases h
   .exact(z e).2 y u a b
  .simp only[if_true];obtain⟨E,z⟩:=ao4 hs l (c.set x.2.1.toNat true) fun y u=>by rw[List.length_set];exact hl y (by simp [u])
   rcases I:c.getD x.2.1.toNat false with _|_
   .have:=qm c x.2.1.toNat D I;exact⟨oM,fun e=>oM⟩
   .have J:c.set x.2.1.toNat true=c:=by
     have O:c[x.2.1.toNat]?=some true:=by
      rw[List.getD_eq_getElem?_getD,List.getElem?_eq_getElem D]at I;rw[List.getElem?_eq_getElem D];exact congrArg some (by simpa using I)
     refine List.ext_getElem? fun k=>?_;rw[List.getElem?_set];by_cases e:x.2.1.toNat=k
     .subst e;rw[if_pos rfl,if_pos D,O]
     .simp [e]
    rw[J]at E z ⊢;refine⟨E,fun e=>⟨(z e).1,fun y u a b=>?_⟩⟩;rcases List.mem_cons.1 u with rfl|u
    .exact I
    .exact(z e).2 y u a b
theorem ao1:∀(c:List Bool),fD c=0->∀z,z<c.length->c.getD z false=true
 |[],_,z,h=>by simp at h
 |b::c,h,z,hz=>by
  cases b with
  |false=>simp [fD]at h
  |true=>
   cases z with
   |zero=>rfl
   |succ z=>exact ao1 c (by simpa [fD] using h) z (by simpa using hz)
theorem am8(hs:List Bool)(l:List EdD):∀(n:Nat)(c:List Bool),fD c<=n->(∀x∈l,x.2.1.toNat<c.length)->∀x∈l,(clI hs l n c).getD x.1.toNat false=true->al3 hs x=true->(clI hs l n c).getD x.2.1.toNat false=true
 |0,c,h,hl,x,hx,_,_=>ao1 c oM _ (hl x hx)
 |n+1,c,h,hl,x,hx,h1,h2=>by
  rw[clI]at h1 ⊢;obtain⟨S,J⟩:=ao4 hs l c hl;have z:∀y∈l,y.2.1.toNat<(clP hs l c).length:=fun y I=>by rw[al8];exact hl y I
  by_cases e:fD (clP hs l c)=fD c
  .obtain⟨D,O⟩:=J e;have u:∀m,clI hs l m (clP hs l c)=clP hs l c:=by
    intro m;induction m with
    |zero=>rfl
    |succ m E=>rw[D]at E ⊢;rw[clI,D];exact E
   rw[u,D]at h1 ⊢;exact O x hx h1 h2
  .exact am8 hs l n _ oM z x hx h1 h2
theorem at3(c:List Bool):fD c<=c.length:=List.length_filter_le _ _
theorem al0{hs:List Bool}{p:PrD}{q:Nat}(O:q<p.st.toNat)(I:∀x∈p.ed,x.2.1.toNat<p.st.toNat) (z:Nat):(ak9 hs p q).getD z false=true↔Rch hs p q z:=by
 have E:((List.replicate p.st.toNat false).set q true).length=p.st.toNat:=sM;have D:∀z,(List.replicate p.st.toNat false).getD z false=false:=fun z=>by
  rw[List.getD_eq_getElem?_getD,List.getElem?_replicate];split<;>rfl
 have y:q<(List.replicate p.st.toNat false).length:=by simpa using O
 constructor
 .refine ao0 hs p q _ _ (fun x u=>by rw[E];exact I x u) (fun z J=>?_) z;rw[xW _ _ _ y,D,Bool.or_false,decide_eq_true_eq]at J;subst J;exact .refl
 .intro h;induction h with
  |refl=>exact ap4 hs _ _ _ _ (fun x u=>by rw[E];exact I x u) (by rw[xW _ _ _ y,decide_eq_true rfl,Bool.true_or])
  |step x u h k S=>exact am8 hs _ _ _ (by have:=at3 ((List.replicate p.st.toNat false).set q true);rw[E]at this;exact this) (fun x u=>by rw[E];exact I x u) x u S h
theorem ar4{fi ne:SoD}{hs:List Bool}{p:PrD}{b:Int}{q:Nat}(u:q<p.st.toNat)(y:∀x∈p.ed,x.2.1.toNat<p.st.toNat):okR fi ne hs p b q=true↔am2 fi ne hs p b q:=by
 rw[as9,okR,Bool.or_eq_true,List.any_eq_true]
 constructor
 .rintro(h|⟨x,D,h⟩)
  .exact⟨_,(al0 u y _).1 h,.inl rfl⟩
  .simp only[Bool.and_eq_true]at h;exact⟨_,(al0 u y _).1 h.1,.inr ⟨x,D,rfl,h.2⟩⟩
 .rintro⟨z,h,rfl|⟨x,D,rfl,E⟩⟩
  .exact .inl ((al0 u y _).2 h)
  .exact .inr ⟨x,D,by rw[(al0 u y _).2 h,E];rfl⟩
theorem an4(fi ne:SoD)(hs:List Bool)(b:Int):∀(l:List EdD)(z:List Bool×Bool),z.2=true->(aL fi ne hs b l z).2=true
 |[],z,h=>h
 |x::l,z,h=>by
  rw[aL];refine an4 fi ne hs b l _ ?_;split
  .rfl
  .exact h
theorem an5(fi ne:SoD)(hs:List Bool)(b:Int):∀(l:List EdD)(bs:List Bool),(aL fi ne hs b l (bs,false)).2=false->(aL fi ne hs b l (bs,false)).1=bs/\∀x∈l,Bh fi ne hs bs b x=true->iY bs (b+x.1)=true
 |[],bs,_=>⟨rfl,fun x J=>by cases J⟩
 |x::l,bs,h=>by
  rw[aL]at h ⊢;rcases u:(!iY bs (b+x.1)&&Bh fi ne hs bs b x)with _|_
  .simp only[u,bF]at h ⊢;obtain⟨E,I⟩:=an5 fi ne hs b l bs h;refine⟨E,fun y z D=>?_⟩;rcases List.mem_cons.1 z with rfl|z
   .rw[D,Bool.and_true]at u
    simpa using u
   .exact I y z D
  .simp only[u,if_true]at h;rw[an4 fi ne hs b l _ rfl]at h;cases h
structure am4(fi ne:SoD)(hs:List Bool)(p:PrD)(b:Int)(bs0 bs:List Bool):Prop where
 len:bs.length=bs0.length
 up:∀k,bs0.getD k false=true->bs.getD k false=true
 sound:∀k,bs.getD k false=true->bs0.getD k false=true\/∃q:Nat,(k:Int)=b+q/\(q:Int)<p.st/\am2 fi ne hs p b q
 en:bs.getD (b+p.en).toNat false=true
structure aq3(p:PrD)(b:Int)(bs0:List Bool):Prop where
 b0:0<=b
 st:b+p.st<=bs0.length
 sa:0<=p.st
 en:0<=p.en/\p.en<p.st
 ed:∀x∈p.ed,0<=x.1/\x.1<p.st/\0<=x.2.1/\x.2.1<p.st
 kd:∀x∈p.ed,x.2.2.1=0\/x.2.2.1=1\/x.2.2.1=2\/x.2.2.1=3
 zero:∀k:Nat,b<=k->bs0.getD k false=false
section
variable{fi ne:SoD}{hs:List Bool}{p:PrD}{b:Int}{bs0:List Bool}
theorem am4.lead(u:aq3 p b bs0){bs:List Bool}(h:am4 fi ne hs p b bs0 bs){t:Int}(D:0<=t)(y:iY bs (b+t)=true):am2 fi ne hs p b t.toNat:=by
 have E:=u.b0;rcases h.sound _ y with k|⟨q,I,J,z⟩
 .rw[u.zero _ oM]at k;cases k
 .have:q=t.toNat:=oM;rw[<-this];exact z
theorem am4.set(z:aq3 p b bs0){bs:List Bool}(h:am4 fi ne hs p b bs0 bs){x:EdD}(E:x∈p.ed)(u:Bh fi ne hs bs b x=true):am4 fi ne hs p b bs0 (bs.set (b+x.1).toNat true):=by
 have hb:=z.b0;have X:=z.st;obtain⟨e1,e2,U,e4⟩:=z.ed x E;have W:=h.len;have y:(b+x.1).toNat<bs.length:=oM;have I:am2 fi ne hs p b x.1.toNat:=by
  rw[Bh]at u;by_cases J:x.2.2.1=1
  .rw[if_pos J]at u;exact .out x E (by rw[an3,u,decide_eq_true J];rfl)
  rw[if_neg J]at u;by_cases O:x.2.2.1=2
  .rw[if_pos O]at u;exact .out x E (by rw[an3,u,decide_eq_true O,Bool.true_and,Bool.or_true])
  rw[if_neg O]at u;by_cases S:x.2.2.1=3
  .rw[if_pos S,Bool.and_eq_true]at u;exact .mv x E (by rw[al3,u.1,decide_eq_true S,Bool.true_and,Bool.or_true]) (h.lead z U u.2)
  .rw[if_neg S]at u;have k0:x.2.2.1=0:=oN (z.kd x E);exact .mv x E (by rw[al3,decide_eq_true k0,Bool.true_or]) (h.lead z U u)
 refine⟨by rw[List.length_set];exact h.len,fun k D=>by rw[xW _ _ _ y,h.up k D,Bool.or_true],fun k D=>?_,by rw[xW _ _ _ y,h.en,Bool.or_true]⟩;rw[xW _ _ _ y,Bool.or_eq_true,decide_eq_true_eq]at D;rcases D with rfl|D
 .exact .inr ⟨x.1.toNat,oM,oM,I⟩
 .exact h.sound k D
theorem ar5(u:aq3 p b bs0):∀(l:List EdD)(z:List Bool×Bool),(∀x∈l,x∈p.ed)->am4 fi ne hs p b bs0 z.1->am4 fi ne hs p b bs0 (aL fi ne hs b l z).1
 |[],z,_,h=>h
 |x::l,z,hl,h=>by
  rw[aL];refine ar5 u l _ (fun y E=>hl y (by simp [E])) ?_;split
  .rename_i D;simp only[Bool.and_eq_true]at D;exact h.set u (hl x sM) D.2
  .exact h
theorem au2(u:aq3 p b bs0):∀(n:Nat)(bs:List Bool),fD bs+1<=n->am4 fi ne hs p b bs0 bs->am4 fi ne hs p b bs0 (itE fi ne hs b p.ed n bs)/\∀x∈p.ed,Bh fi ne hs (itE fi ne hs b p.ed n bs) b x=true->iY (itE fi ne hs b p.ed n bs) (b+x.1)=true
 |0,bs,h,_=>oM
 |n+1,bs,h,hP=>by
  have E:=ar5 (fi:=fi) (ne:=ne) (hs:=hs) u p.ed (bs,false) (fun x z=>z) hP;have y:∀x∈p.ed,0<=b+x.1/\b+x.1<bs.length:=fun x z=>by
   have:=u.ed x z;have:=u.b0;have:=u.st;have:=hP.len;omega
  have J:=fc fi ne hs b p.ed (bs,false) y;rw[itE];rcases D:(aL fi ne hs b p.ed (bs,false)).2 with _|_
  .simp only[bF];obtain⟨O,S⟩:=an5 fi ne hs b p.ed bs D;rw[O];exact⟨hP,S⟩
  .simp only[if_true];have I:=J.2 D;simp only[Bool.false_eq_true,false_or]at I;exact au2 u n _ oM E
theorem as8(I:aq3 p b bs0){bs:List Bool}(S:am4 fi ne hs p b bs0 bs)(E:∀x∈p.ed,Bh fi ne hs bs b x=true->iY bs (b+x.1)=true) {q:Nat} (h:am2 fi ne hs p b q):iY bs (b+q)=true:=by
 have key:∀t:Int,0<=t->iY bs (b+t.toNat)=true->iY bs (b+t)=true:=fun t J h=>by
  rw[Int.toNat_of_nonneg J]at h;exact h
 have u:∀t:Int,0<=t->iY bs (b+t)=true->iY bs (b+t.toNat)=true:=fun t J h=>by
  rw[Int.toNat_of_nonneg J];exact h
 induction h with
 |en=>exact u _ I.en.1 S.en
 |out x y h=>
  refine u _ (I.ed x y).1 (E x y ?_);rw[an3,Bool.or_eq_true,Bool.and_eq_true,Bool.and_eq_true,decide_eq_true_eq,decide_eq_true_eq]at h;rw[Bh];rcases h with⟨z,D⟩|⟨z,D⟩
  .rw[if_pos z];exact D
  .rw[if_neg oM,if_pos z];exact D
 |mv x y h k U=>
  refine u _ (I.ed x y).1 (E x y ?_);have O:=key _ (I.ed x y).2.2.1 U;rw[al3,Bool.or_eq_true,Bool.and_eq_true,decide_eq_true_eq,decide_eq_true_eq]at h;rw[Bh];rcases h with h|⟨z,D⟩
  .rw[if_neg oM,if_neg oM,if_neg oM];exact O
  .rw[if_neg oM,if_neg oM,if_pos z,D,O];rfl
end
theorem ap8(f:Nat->Bool)(b:Int)(O:0<=b):∀(n q:Nat)(bs:List Bool),b+q+n<=bs.length->∀k:Nat,(an9 f b n q bs).getD k false=true↔(bs.getD k false=true\/∃j:Nat,(k:Int)=b+j/\q<=j/\j<q+n/\f j=true)
 |0,q,bs,_,k=>by
  rw[an9];exact⟨.inl,fun h=>h.elim id fun⟨j,_,y,D,_⟩=>oM⟩
 |n+1,q,bs,h,k=>by
  rw[an9];have z:(if f q=true then bs.set (b+q).toNat true else bs).length=bs.length:=by split<;>simp
  rw[ap8 f b O n (q+1) _ (by rw[z];omega) k];have I:(b+(q:Int)).toNat<bs.length:=oM;rcases J:f q with _|_
  .simp only[bF]
   constructor
   .rintro(h|⟨j,y,D,E,u⟩)
    .exact .inl h
    .exact .inr ⟨j,y,oM,oM,u⟩
   .rintro(h|⟨j,y,D,E,u⟩)
    .exact .inl h
    .have:j≠q:=fun e=>by rw[e,J]at u;cases u
     exact .inr ⟨j,y,oM,oM,u⟩
  .simp only[if_true];rw[xW _ _ _ I,Bool.or_eq_true,decide_eq_true_eq]
   constructor
   .rintro((h|h)|⟨j,y,D,E,u⟩)
    .exact .inr ⟨q,oM,oM,oM,J⟩
    .exact .inl h
    .exact .inr ⟨j,y,oM,oM,u⟩
   .rintro(h|⟨j,y,D,E,u⟩)
    .exact .inl (.inr h)
    .by_cases e:j=q
     .subst e;exact .inl (.inl oM)
     .exact .inr ⟨j,y,oM,oM,u⟩
theorem ar7{a c:List Bool}(z:a.length=c.length)(h:∀k:Nat,a.getD k false=true↔c.getD k false=true):a=c:=by
 refine List.ext_getElem z fun k u y=>?_;have:=h k;rw[List.getD_eq_getElem?_getD,List.getElem?_eq_getElem u,List.getD_eq_getElem?_getD,List.getElem?_eq_getElem y]at this;simp only[Option.getD_some]at this;cases D:a[k]<;>cases E:c[k]<;>simp_all
theorem as2(s:StD)(e:EvD)(fi ne:SoD)(p:PrD)(b:Int)(bs0:List Bool)(u:aq3 p b bs0):al9 s e fi ne p b bs0=gV s e fi ne p b bs0/\(gV s e fi ne p b bs0).length=bs0.length/\∀k:Nat,b+p.st<=k->(gV s e fi ne p b bs0).getD k false=false:=by
 have hb:=u.b0;have a3:=u.st;have a1:=u.en;have a2:=u.sa;have D:(b+p.en).toNat<bs0.length:=oM;obtain⟨hs,I⟩:=eY (p.ts.map (R7 s e bs0));have X:am4 fi ne hs p b bs0 (bs0.set (b+p.en).toNat true):=⟨by rw[List.length_set],fun k z=>by rw[xW _ _ _ D,z,Bool.or_true],fun k z=>by
  rw[xW _ _ _ D,Bool.or_eq_true,decide_eq_true_eq]at z;rcases z with rfl|z
  .exact .inr ⟨p.en.toNat,oM,oM,.en⟩
  .exact .inl z,by rw[xW _ _ _ D,decide_eq_true rfl,Bool.true_or]⟩
 obtain⟨y,E⟩:=au2 u (fD (bs0.set (b+p.en).toNat true)+1) _ lR X;have U:gV s e fi ne p b bs0=itE fi ne hs b p.ed (fD (bs0.set (b+p.en).toNat true)+1) (bs0.set (b+p.en).toNat true):=by rw[gV,I]
 rw[<-U]at y E;have J:∀x∈p.ed,x.2.1.toNat<p.st.toNat:=fun x hx=>oN (u.ed x hx);refine⟨?_,y.len,fun k z=>?_⟩
 .refine ar7 (by rw[al9,aq0,y.len]) fun k=>?_;rw[al9,<-I,ap8 _ _ hb _ _ _ oM]
  constructor
  .rintro(h|⟨j,O,_,S,h4⟩)
   .exact y.up k h
   .have W:=as8 u y E ((ar4 oM J).1 h4);have:(b+(j:Int)).toNat=k:=oM;rw[iY,this]at W;exact W
  .intro h;rcases y.sound k h with h|⟨q,O,h2,S⟩
   .exact .inl h
   .exact .inr ⟨q,O,Nat.zero_le _,oM,(ar4 oM J).2 S⟩
 .cases h:(gV s e fi ne p b bs0).getD k false with
  |false=>rfl
  |true=>
   rcases y.sound k h with h|⟨q,O,h2,S⟩
   .rw[u.zero k oM]at h;cases h
   .omega
def PE(p:PrD):Prop:=0<=p.st/\∀x∈p.ed,0<=x.1/\x.1<p.st/\0<=x.2.1/\x.2.1<p.st/\(x.2.2.1=3->0<=x.2.2.2/\x.2.2.2<p.ts.length)
theorem PE.edge{p:PrD}(h:PE p){f t:Int}(u:0<=f/\f<p.st)(y:0<=t/\t<p.st):PE (p.edge f t 0 0):=by
 refine⟨h.1,fun x z=>?_⟩;rcases List.mem_append.1 z with q|q
 .exact h.2 x q
 .rw[List.mem_singleton.1 q];exact⟨u.1,u.2,y.1,y.2,fun q=>by cases q⟩
theorem PE.more{p:PrD}(h:PE p)(d:Int)(J:0<=d):PE {p with st:=p.st+d}:=by
 refine⟨by show 0<=p.st+d;have:=h.1;omega,fun x D=>?_⟩;obtain⟨u,E,y,I,z⟩:=h.2 x D;exact⟨u,by show x.1<p.st+d;omega,y,by show x.2.1<p.st+d;omega,z⟩
theorem PE.fold{t:Int}:∀(l:List Int){p:PrD},PE p->(0<=t/\t<p.st)->(∀x∈l,0<=x/\x<p.st)->PE (l.foldl (fun m x=>m.edge x t 0 0) p)
 |[],p,h,_,_=>h
 |x::l,p,h,ht,hl=>by
  rw[List.foldl_cons];exact PE.fold l (h.edge (hl x sM) ht) ht fun y u=>hl y (by simp [u])
def PW(p:PrD)(r:PrD×Int×Int):Prop:=PE r.1/\p.st<=r.1.st/\p.ts.length<=r.1.ts.length/\0<=r.2.1/\r.2.1<r.1.st/\0<=r.2.2/\r.2.2<r.1.st
mutual
theorem gh:∀(q:Q)(p:PrD),OkD false q->PE p->PW p (C5 q p)
 | .mk o s c v a b,p,hok,hp=>by
  obtain⟨ha,hb,h1,h2,h3⟩:=hok.parts;obtain⟨n1,n2,n3,n4⟩:=dk h3;have l4:o=4->1<=a.length:=by
   rintro rfl;have:(2:Int)<=a.length:=n1;omega
  have l6:o=6->1<=a.length:=by
   rintro rfl;have:(1:Int)<=a.length:=n1;omega
  simp only[Q.op,Q.a,Q.b,Bool.false_eq_true,if_false]at ha hb h1 n3 n4;have hp0:=hp.1;rw[C5];split
  .rename_i ho;exact Fd a p (l4 ho) ha hp
  .rename_i ho4;split
   .rename_i ho;obtain⟨k1,k2,k3,k4⟩:=vg a p.st {p with st:=p.st+1} [] ha (hp.more 1 oM) ⟨hp.1,by show p.st<p.st+1;omega⟩ (fun e he=>by cases he);obtain⟨f1,f2,_⟩:=iB (L5 a p.st {p with st:=p.st+1} []).1.st (L5 a p.st {p with st:=p.st+1} []).2 {(L5 a p.st {p with st:=p.st+1} []).1 with st:=(L5 a p.st {p with st:=p.st+1} []).1.st+1};have k2':p.st+1<=(L5 a p.st {p with st:=p.st+1} []).1.st:=k2;unfold PW;rw[f1,f2];refine⟨?_,by show p.st<=(L5 a p.st {p with st:=p.st+1} []).1.st+1;omega,k3,hp.1,by show p.st<(L5 a p.st {p with st:=p.st+1} []).1.st+1;omega,k1.1,by show(L5 a p.st {p with st:=p.st+1} []).1.st<(L5 a p.st {p with st:=p.st+1} []).1.st+1;omega⟩;refine PE.fold _ (k1.more 1 oM) ⟨k1.1,by show(L5 a p.st {p with st:=p.st+1} []).1.st<(L5 a p.st {p with st:=p.st+1} []).1.st+1;omega⟩ fun x hx=>?_;have:=k4 x hx;exact⟨this.1,by show x<(L5 a p.st {p with st:=p.st+1} []).1.st+1;omega⟩
   .rename_i ho5;split
    .rename_i ho;obtain⟨k1,k2,k3,k4,k5,k6,k7⟩:=EF a {p with st:=p.st+1} (l6 ho) ha (hp.more 1 oM);have k2':p.st+1<=(aC3 a {p with st:=p.st+1}).1.st:=k2;exact⟨(k1.edge ⟨hp.1,oM⟩ ⟨k4,k5⟩).edge ⟨k6,k7⟩ ⟨hp.1,by show p.st<(aC3 a {p with st:=p.st+1}).1.st;omega⟩,by show p.st<=(aC3 a {p with st:=p.st+1}).1.st;omega,k3,hp.1,by show p.st<(aC3 a {p with st:=p.st+1}).1.st;omega,hp.1,by show p.st<(aC3 a {p with st:=p.st+1}).1.st;omega⟩
    .rename_i ho6;have hts:p.ts.length<=(if o=7 then p.ts++b else p.ts).length:=by
      split
      .rw[List.length_append];omega
      .exact lR
     refine⟨⟨by show 0<=p.st+2;omega,fun x hx=>?_⟩,by show p.st<=p.st+2;omega,hts,hp.1,by show p.st<p.st+2;omega,by show 0<=p.st+1;omega,by show p.st+1<p.st+2;omega⟩;rcases List.mem_append.1 hx with q|q
     .obtain⟨e1,e2,e3,e4,e5⟩:=hp.2 x q;refine⟨e1,by show x.1<p.st+2;omega,e3,by show x.2.1<p.st+2;omega,fun h=>?_⟩;have:=e5 h;exact⟨this.1,by show x.2.2.2<((if o=7 then p.ts++b else p.ts).length:Int);omega⟩
     .rw[List.mem_singleton.1 q];refine⟨hp.1,by show p.st<p.st+2;omega,by show 0<=p.st+1;omega,by show p.st+1<p.st+2;omega,fun h=>?_⟩;have h7:o=7:=by
       by_cases h7:o=7
       .exact h7
       .exfalso
        simp only[if_neg h7]at h;split at h
        .cases h
        .split at h<;>cases h
      show 0<=(if o=7 then(p.ts.length:Int) else 0)/\(if o=7 then(p.ts.length:Int) else 0)<((if o=7 then p.ts++b else p.ts).length:Int);rw[if_pos h7,if_pos h7,List.length_append];have:=n3.1 h7;omega
theorem Fd:∀(l:List Q)(p:PrD),1<=l.length->(∀x∈l,OkD false x)->PE p->PW p (hU l p)
 |[],p,h,_,_=>by simp at h
 |x::l,p,_,h,hp=>by
  rw[hU];exact vP l (C5 x p) p (fun y hy=>h y (by simp [hy])) (gh x p (h x (by simp)) hp)
theorem vP:∀(l:List Q)(x:PrD×Int×Int)(p:PrD),(∀y∈l,OkD false y)->PW p x->PW p (cP l x)
 |[],x,p,_,h=>by rw[cP];exact h
 |q::l,x,p,h,hx=>by
  rw[cP];obtain⟨k1,k2,k3,k4,k5,k6,k7⟩:=hx;obtain⟨m1,m2,m3,m4,m5,m6,m7⟩:=gh q x.1 (h q (by simp)) k1;refine vP l _ p (fun y hy=>h y (by simp [hy])) ⟨m1.edge ⟨k6,oM⟩ ⟨m4,m5⟩,by show p.st<=(C5 q x.1).1.st;omega,by show p.ts.length<=(C5 q x.1).1.ts.length;omega,k4,by show x.2.1<(C5 q x.1).1.st;omega,m6,m7⟩
theorem vg:∀(l:List Q)(n:Int)(p:PrD)(es:List Int),(∀y∈l,OkD false y)->PE p->(0<=n/\n<p.st)->(∀e∈es,0<=e/\e<p.st)->
  PE (L5 l n p es).1/\p.st<=(L5 l n p es).1.st/\p.ts.length<=(L5 l n p es).1.ts.length/\∀e∈(L5 l n p es).2,0<=e/\e<(L5 l n p es).1.st
 |[],n,p,es,_,hp,_,he=>by rw[L5];exact⟨hp,Int.le_refl _,lR,he⟩
 |x::l,n,p,es,h,hp,hn,he=>by
  rw[L5];obtain⟨m1,m2,m3,m4,m5,m6,m7⟩:=gh x p (h x (by simp)) hp;obtain⟨r1,r2,r3,r4⟩:=vg l n ((C5 x p).1.edge n (C5 x p).2.1 0 0) (es++[(C5 x p).2.2]) (fun y hy=>h y (by simp [hy])) (m1.edge ⟨hn.1,oM⟩ ⟨m4,m5⟩) ⟨hn.1,by show n<(C5 x p).1.st;omega⟩ (fun e hm=>by
   rcases List.mem_append.1 hm with q|q
   .have:=he e q;exact⟨this.1,by show e<(C5 x p).1.st;omega⟩
   .rw[List.mem_singleton.1 q];exact⟨m6,m7⟩)
  have r2':(C5 x p).1.st<=(L5 l n ((C5 x p).1.edge n (C5 x p).2.1 0 0) (es++[(C5 x p).2.2])).1.st:=r2;have r3':(C5 x p).1.ts.length<=(L5 l n ((C5 x p).1.edge n (C5 x p).2.1 0 0) (es++[(C5 x p).2.2])).1.ts.length:=r3;exact⟨r1,oM,oM,r4⟩
theorem EF:∀(l:List Q)(p:PrD),1<=l.length->(∀x∈l,OkD false x)->PE p->PW p (aC3 l p)
 |[],p,h,_,_=>by simp at h
 |x::l,p,_,h,hp=>by
  rw[aC3];exact gh x p (h x (by simp)) hp
end
theorem zK(q:Q)(h:OkD false q)(S:nQ q<=100000):PWf (C0 q):=by
 obtain⟨u,J,O,y,z,D,E⟩:=gh q ⟨0,0,0,[],[]⟩ h ⟨Int.le_refl _,fun x I=>by cases I⟩;have hs:=cy q;exact⟨⟨hs.1,oM⟩,⟨y,z⟩,⟨D,E⟩,u.2⟩
theorem nZ(q:Q)(O:OkD false q)(hn:nQ q<=1000):0<=y9 (D0 q).progs/\y9 (D0 q).progs<=2000*((D0 q).progs.length:Int)/\∀(i:Nat) p b,(D0 q).progs[i]?=some p->(D0 q).base[i]?=some b->0<=b/\b+p.st<=y9 (D0 q).progs/\PWf p:=by
 obtain⟨h1,h2⟩:=bH _ false q lR O;have key:∀(l:List Q)(s:StD),(∀x∈l,OkD false x/\nQ x<=nQ q)->s.base.length=s.progs.length->0<=y9 s.progs->y9 s.progs<=2000*(s.progs.length:Int)->(∀(i:Nat) p b,s.progs[i]?=some p->s.base[i]?=some b->0<=b/\b+p.st<=y9 s.progs/\PWf p)->
   0<=y9 (l.foldl ni s).progs/\y9 (l.foldl ni s).progs<=2000*((l.foldl ni s).progs.length:Int)/\∀(i:Nat) p b,(l.foldl ni s).progs[i]?=some p->(l.foldl ni s).base[i]?=some b->0<=b/\b+p.st<=y9 (l.foldl ni s).progs/\PWf p:=by
  intro l;induction l with
  |nil=>intro s _ _ D I E;exact⟨D,I,E⟩
  |cons x l ih=>
   intro s U J D I E;rw[List.foldl_cons];have S:=U x sM;have hc:=cy x;refine ih (ni s x) (fun y hy=>U y (by simp [hy])) ?_ ?_ ?_ ?_
   .rw[ni];split
    .exact J
    .simp [J]
   .rw[ni];split
    .exact D
    .rw[X0];omega
   .rw[ni];split
    .exact I
    .rw[X0,List.length_append,List.length_singleton];omega
   .rw[ni];split
    .exact E
    .intro i p b u h;rw[X0];by_cases hi:i<s.progs.length
     .rw[List.getElem?_append_left hi]at u;rw[List.getElem?_append_left oM]at h;obtain⟨W,a2,X⟩:=E i p b u h;exact⟨W,oM,X⟩
     .have z:i=s.progs.length:=by
       have:=(gS u).1;simp at this;omega
      rw[List.getElem?_append_right oM,z,Nat.sub_self]at u;rw[List.getElem?_append_right oM,z,J,Nat.sub_self]at h;simp at u h;subst u h;exact⟨D,Int.le_refl _,zK x S.1 oM⟩
 exact key (inQ false q) ⟨[],[],[],C0 q⟩ h2 rfl (Int.le_refl _) (by simp [y9]) (fun i p b u=>by simp at u)
theorem yG(q:Q)(h:OkD false q)(W:nQ q<=400):WfS (D0 q) (y9 (D0 q).progs).toNat:=by
 obtain⟨z,D,S,U⟩:=ii q h;obtain⟨X,k2,J⟩:=nZ q h oM;refine⟨z,D,oM,oM,fun i p b I E=>?_⟩;obtain⟨u,O,y⟩:=J i p b I E;exact⟨u,oM,y⟩
def KG(p:PrD):Prop:=(∀x∈p.ed,x.2.2.1=0\/x.2.2.1=1\/x.2.2.1=2\/x.2.2.1=3)/\∀t∈p.ts,OkD true t
theorem KG.edge{p:PrD}(h:KG p)(f t k x:Int)(u:k=0\/k=1\/k=2\/k=3):KG (p.edge f t k x):=⟨fun y z=>by
 rcases List.mem_append.1 z with q|q
 .exact h.1 y q
 .rw[List.mem_singleton.1 q];exact u,h.2⟩
theorem KG.fold(t:Int):∀(l:List Int){p:PrD},KG p->KG (l.foldl (fun m x=>m.edge x t 0 0) p)
 |[],p,h=>h
 |x::l,p,h=>by rw[List.foldl_cons];exact KG.fold t l (h.edge _ _ _ _ (.inl rfl))
mutual
theorem al7:∀(q:Q)(p:PrD),OkD false q->KG p->KG (C5 q p).1
 | .mk o s c v a b,p,hok,hp=>by
  obtain⟨ha,hb,h1,h2,h3⟩:=hok.parts;simp only[Q.op,Q.a,Q.b]at ha hb;rw[C5];split
  .exact at5 a p ha hp
  .split
   .exact KG.fold _ _ (ar2 a p.st {p with st:=p.st+1} [] ha hp)
   .split
    .exact((at4 a {p with st:=p.st+1} ha hp).edge _ _ _ _ (.inl rfl)).edge _ _ _ _ (.inl rfl)
    .show KG (({p with st:=p.st+2,ts:=if o=7 then p.ts++b else p.ts}:PrD).edge p.st (p.st+1) (if o=2 then 1 else if o=3 then 2 else if o=7 then 3 else 0) (if o=7 then(p.ts.length:Int) else 0));refine KG.edge (p:={p with st:=p.st+2,ts:=if o=7 then p.ts++b else p.ts}) ⟨hp.1,fun t ht=>?_⟩ _ _ _ _ ?_
     .simp only at ht;split at ht
      .rcases List.mem_append.1 ht with q|q
       .exact hp.2 t q
       .exact hb t q
      .exact hp.2 t ht
     .split
      .exact .inr (.inl rfl)
      .split
       .exact .inr (.inr (.inl rfl))
       .split
        .exact .inr (.inr (.inr rfl))
        .exact .inl rfl
theorem at5:∀(l:List Q)(p:PrD),(∀x∈l,OkD false x)->KG p->KG (hU l p).1
 |[],p,_,h=>by rw[hU];exact h
 |x::l,p,h,hp=>by
  rw[hU];exact ar6 l (C5 x p) (fun y hy=>h y (by simp [hy])) (al7 x p (h x (by simp)) hp)
theorem ar6:∀(l:List Q)(x:PrD×Int×Int),(∀y∈l,OkD false y)->KG x.1->KG (cP l x).1
 |[],x,_,h=>by rw[cP];exact h
 |q::l,x,h,hx=>by
  rw[cP];exact ar6 l _ (fun y hy=>h y (by simp [hy])) ((al7 q x.1 (h q (by simp)) hx).edge _ _ _ _ (.inl rfl))
theorem ar2:∀(l:List Q)(n:Int)(p:PrD)(es:List Int),(∀y∈l,OkD false y)->KG p->KG (L5 l n p es).1
 |[],n,p,es,_,hp=>by rw[L5];exact hp
 |x::l,n,p,es,h,hp=>by
  rw[L5];exact ar2 l n _ _ (fun y hy=>h y (by simp [hy])) ((al7 x p (h x (by simp)) hp).edge _ _ _ _ (.inl rfl))
theorem at4:∀(l:List Q)(p:PrD),(∀x∈l,OkD false x)->KG p->KG (aC3 l p).1
 |[],p,_,h=>by rw[aC3];exact h
 |x::l,p,h,hp=>by
  rw[aC3];exact al7 x p (h x (by simp)) hp
end
theorem as7(q:Q)(u:OkD false q):KG (C0 q):=by
 have h:=al7 q ⟨0,0,0,[],[]⟩ u ⟨(fun x z=>by cases z),(fun t y=>by cases y)⟩;exact h
structure am3(s:StD):Prop where
 len:s.base.length=s.progs.length
 at_:∀(i:Nat) p b,s.progs[i]?=some p->s.base[i]?=some b->b=y9 (s.progs.take i)/\KG p
theorem am3.step{s:StD}(h:am3 s){x:Q}(E:OkD false x):am3 (ni s x):=by
 rw[ni];split
 .exact h
 .refine⟨by simp [h.len],fun i p b y z=>?_⟩;simp only at y z ⊢;by_cases D:i<s.progs.length
  .rw[List.getElem?_append_left D]at y;rw[List.getElem?_append_left (by rw[h.len];exact D)]at z;rw[List.take_append_of_le_length oM];exact h.at_ i p b y z
  .have u:i=s.progs.length:=by
    have:=(gS y).1;simp at this;omega
   rw[List.getElem?_append_right oM,u,Nat.sub_self]at y;rw[List.getElem?_append_right (by rw[h.len];omega),u,h.len,Nat.sub_self]at z;simp at y z;subst y z;rw[u,List.take_left];exact⟨rfl,as7 x E⟩
theorem am0(q:Q)(z:OkD false q):am3 (D0 q):=by
 obtain⟨O,D⟩:=bH _ false q lR z;have key:∀(l:List Q)(s:StD),(∀x∈l,OkD false x)->am3 s->am3 (l.foldl ni s):=by
  intro l;induction l with
  |nil=>intro s _ h;exact h
  |cons x l J=>
   intro s u h;rw[List.foldl_cons];exact J _ (fun y I=>u y (by simp [I])) (h.step (u x sM))
 exact key (inQ false q) ⟨[],[],[],C0 q⟩ (fun x u=>(D x u).1) ⟨rfl,fun i p b E=>by simp at E⟩
theorem ar0(l:List PrD)(i:Nat)(p:PrD)(h:l[i]?=some p):y9 (l.take (i+1))=y9 (l.take i)+p.st:=by
 rw[List.take_add_one,h];exact X0 _ _
theorem an6(s:StD)(u:EvD)(fi ne:SoD)(n:Nat)(S:WfS s n)(z:am3 s):∀(k i:Nat)(bs:List Bool),i+k=s.progs.length->bs.length=n->(∀j:Nat,y9 (s.progs.take i)<=j->bs.getD j false=false)->He s u fi ne ((s.progs.zip s.base).drop i) bs=cn s u fi ne ((s.progs.zip s.base).drop i) bs
 |0,i,bs,hk,hl,hz=>by
  have:(s.progs.zip s.base).drop i=[]:=dN (by rw[List.length_zip];omega);rw[this];rfl
 |k+1,i,bs,hk,hl,hz=>by
  have X:=z.len;obtain⟨p,y⟩:∃p,s.progs[i]?=some p:=⟨s.progs[i]'oM,List.getElem?_eq_getElem oM⟩
  obtain⟨b,D⟩:∃b,s.base[i]?=some b:=⟨s.base[i]'oM,List.getElem?_eq_getElem oM⟩
  obtain⟨h1,U⟩:=z.at_ i p b y D;obtain⟨w1,w2,w3⟩:=S.at_ i p b y D;have h:(s.progs.zip s.base).drop i=(p,b)::(s.progs.zip s.base).drop (i+1):=by
   have J:(s.progs.zip s.base)[i]?=some (p,b):=by rw[List.getElem?_zip_eq_some];exact⟨y,D⟩
   obtain⟨I,E⟩:=gS J;rw[List.drop_eq_getElem_cons I,E]
  have W:aq3 p b bs:=⟨w1,by rw[hl];exact w2,w3.st.1,w3.en,fun x hx=>by have:=w3.ed x hx;exact⟨this.1,this.2.1,this.2.2.1,this.2.2.2.1⟩,U.1,fun j O=>hz j oM⟩
  obtain⟨k1,k2,k3⟩:=as2 s u fi ne p b bs W;rw[h,He,cn];simp only;rw[k1];exact an6 s u fi ne n S z k (i+1) _ oM (by rw[k2];exact hl) fun j O=>k3 j (by rw[ar0 _ _ _ y]at O;omega)
theorem as5(q:Q)(u:OkD false q)(z:nQ q<=400)(y:EvD)(fi ne:SoD):an8 (D0 q) y fi ne=Y8 (D0 q) y fi ne:=by
 rw[an8,Y8];have h:=an6 (D0 q) y fi ne _ (yG q u z) (am0 q u) (D0 q).progs.length 0 (List.replicate (y9 (D0 q).progs).toNat false) oM sM (fun j _=>by rw[List.getD_eq_getElem?_getD,List.getElem?_replicate];split<;>rfl);rw[List.drop_zero]at h;rw[h]
theorem ao7(q:Q)(h:OkD false q):∀p∈(D0 q).progs,∀t∈p.ts,OkD true t:=by
 intro p D t E;obtain⟨i,z,y⟩:=List.getElem_of_mem D;have u:=am0 q h;have I:=u.len;exact(u.at_ i p ((D0 q).base[i]'oM) (by rw[List.getElem?_eq_getElem z,y]) (List.getElem?_eq_getElem oM)).2.2 t E
end Go.Proofs.YtofbhlhamfkljaaGreatDoor.Ve
namespace Go.Proofs.YtofbhlhamfkljaaGreatDoor.Ve
open Go Ve.Ab
open Go.Proofs.Tryz (prog)
noncomputable def p34:Code×Code×Code×Code×Code:=match Tryz.f34.body with
 |some (.seq a (.seq (.seq b (.block _ (.rangeFunc _ _ A B))) c))=>(a,b,A,B,c)
 |_=>(.skip,.skip,.skip,.skip,.skip)
theorem GY:Tryz.f34.body=some (.seq p34.1 (.seq (.seq p34.2.1 (.block 0 (.rangeFunc (.tmp 11) #[12,13] p34.2.2.1 p34.2.2.2.1))) p34.2.2.2.2)):=kR
abbrev vw:=cO [N 2 (bx 75 0),N 3 (bx 3 1),N 4 (.alloc 4)]
theorem ag0:d7 p34.1=some vw:=kR
abbrev vx:=cO [L 9 75 2,L 10 3 3,N 11 (c2 61 9 10 75 3)]
theorem ag1:d7 p34.2.1=some vx:=kR
abbrev kx:=cX [A 5 12] (cO [A 6 13])
theorem Xw:d7 p34.2.2.1=some kx:=kR
abbrev QE:=cS (.mix [⟨L 30 75 2,false,true,0,1⟩,m1 (L 31 75 2),m0 (N 32 (nc 31)),m0 (F 33 39 32 0),m1 (L 34 34 33),m1 (L 35 51 8),m1 (L 36 75 2),m0 (N 37 (nc 36)),m0 (F 38 39 37 2),m1 (L 39 36 38),m0 (M 40 5),m0 (N 41 (ia 36 39 40)),m1 (L 42 59 41),m1 (L 43 75 2),m0 (N 44 (nc 43)),m0 (F 45 39 44 2),m1 (L 46 36 45),m0 (M 47 6),m0 (N 48 (ia 36 46 47)),m1 (L 49 59 48),m3 (N 50 (cf 41 #[T 34,T 35,T 42,T 49] #[34,51,59,59])) 0 1,⟨L 51 3 3,false,true,0,1⟩,m2 (M 52 7) 0 1,m2 (M 53 5) 0 1,m2 (M 54 6) 0 1,m2 (N 55 (.build 56 #[(0,T 52),(1,T 53),(2,T 54)])) 0 1,m3 (N 56 (cf 62 #[T 30,T 50,T 51,T 55] #[75,59,3,56])) 1 2,m2 (N 57 (nt' 4 56)) 2 2]) (cC (T 57) (cR [V (.store 4 (T 4) B0)]) .skip)
abbrev QF:=cS (cX [L 24 75 2,L 25 51 8,M 26 5,M 27 6,N 28 (cf 40 #[T 24,T 25,T 26,T 27] #[75,51,3,3]),N 29 (nt' 4 28)] (cC (T 29) (.exit 3) .skip)) QE
abbrev QH:=cS (cB 3 (cX [M 21 19,N 22 (ia 35 17 19),L 23 51 22,N 8 (.alloc 51),A 7 21,V (st' 51 8 23)] QF)) (cO [N 58 (iN 19),M 19 58])
abbrev Fz:=cX [N 20 (bo .lss 3 19 18 3)] (cG 20 2 QH)
abbrev ky:=cB 1 (cX [L 14 75 2,N 15 (nc 14),F 16 39 15 1,L 17 35 16,N 18 (ln 17 35),N 19 (.move (K 0))] (cW 2 Fz))
theorem Xx:d7 p34.2.2.2.1=some ky:=kR
abbrev nh:=cR [V (.store 4 (T 4) B1)]
theorem ag2:d7 p34.2.2.2.2=some nh:=kR
theorem Mz:prog.funcs[34]?=some Tryz.f34:=kR
theorem ah2:(F8 Tryz.f34.ntmps p34.1&&F8 Tryz.f34.ntmps p34.2.1&&F8 Tryz.f34.ntmps p34.2.2.1&&F8 Tryz.f34.ntmps p34.2.2.2.1&&F8 Tryz.f34.ntmps p34.2.2.2.2&&E5 p34.2.2.1&&E5 p34.2.2.2.1&&decide (12<Tryz.f34.ntmps)&&decide (13<Tryz.f34.ntmps))=true:=kR
theorem Xp:fnA prog 34=none:=kR
theorem ah1:Tryz.f34.ntmps=59:=kR
theorem ah6:Tryz.f34.results.toList=[.cell 4 4]:=kR
end Go.Proofs.YtofbhlhamfkljaaGreatDoor.Ve
namespace Go.Proofs.YtofbhlhamfkljaaGreatDoor.Ve
open Go Go.RowKit
open Go.Proofs.Tryz (prog)
theorem lH(s:StD)(e:EvD)(fi ne:SoD):∀(l:List (PrD×Int))(bs:List Bool),(cn s e fi ne l bs).length=bs.length
 |[],bs=>rfl
 |x::l,bs=>by
  rw[cn,lH s e fi ne l,gV,ph];simp
theorem Cj(s:StD)(e:EvD)(fi ne:SoD){n:Nat}(u:(n:Int)=y9 s.progs):fm (Y8 s e fi ne) n:=fun _=>by
 show(rU (cn s e fi ne (s.progs.zip s.base) (List.replicate (y9 s.progs).toNat false))).size=n;have h:∀l:List Bool,(rU l).size=l.length:=fun l=>by
  show((l.map fun b=>if b then(1:UInt8) else 0).toArray).size=_;simp
 rw[h,lH,List.length_replicate];omega
structure WfR(r:ReD)(n:Nat):Prop where
 n0:(n:Int)=y9 r.strat.progs
 st:WfS r.strat n
 so:∀x∈r.sorts,fm x n
 at_:∀e∈r.labels,e.attrs.length<=1000000
 sz:∀p∈r.strat.progs,p.ts.length<=1000000/\p.ed.length<=1000000/\0<=p.st/\p.st<=1000000
 l1:r.sorts.length<=25
 l2:r.size.length=r.sorts.length
 l3:r.how.length=r.sorts.length
 ll:r.labels.length<=1000
 l0:1<=r.sorts.length
 sb:∀x∈r.size,0<=x/\x<=200
theorem fy(r:ReD)(x:SoD)(size:Int)(how:Int×Int×Int):(aQ r x size how).1.strat=r.strat/\(aQ r x size how).1.labels=r.labels/\r.size<+:(aQ r x size how).1.size/\r.sorts<+:(aQ r x size how).1.sorts:=by
 unfold aQ;split
 .exact⟨rfl,rfl,List.prefix_rfl,List.prefix_rfl⟩
 .split
  .exact⟨rfl,rfl,List.prefix_rfl,List.prefix_rfl⟩
  .exact⟨rfl,rfl,List.prefix_append _ _,List.prefix_append _ _⟩
theorem WfR.add{r:ReD}{n:Nat}(h:WfR r n){x:SoD}(D:fm x n){size:Int}(E:0<=size)(how:Int×Int×Int):WfR (aQ r x size how).1 n:=by
 unfold aQ;split
 .exact h
 .split
  .exact h
  .rename_i z;simp only[Bool.or_eq_true,decide_eq_true_eq,not_or]at z;refine⟨h.n0,h.st,fun y u=>?_,h.at_,h.sz,?_,?_,?_,h.ll,?_,fun y u=>?_⟩
   .rcases List.mem_append.1 u with q|q
    .exact h.so y q
    .rw[List.mem_singleton.1 q];exact D
   .simp only[List.length_append,List.length_singleton];omega
   .simp only[List.length_append,List.length_singleton];rw[h.l2]
   .simp only[List.length_append,List.length_singleton];rw[h.l3]
   .simp only[List.length_append,List.length_singleton];omega
   .rcases List.mem_append.1 u with q|q
    .exact h.sb y q
    .rw[List.mem_singleton.1 q];omega
def soZ:SoD:=(false,false,eB)
def Q0(size a b:Int):List EvD->Nat->ReD->ReD×Bool
 |[],_,r=>(r,true)
 |e::l,i,r=>
  if iH r.sorts e.kind a b then
   if(aQ r (Y8 r.strat e (r.sorts.getD a.toNat soZ) (r.sorts.getD b.toNat soZ)) size (i,a,b)).2 then Q0 size a b l (i+1) (aQ r (Y8 r.strat e (r.sorts.getD a.toNat soZ) (r.sorts.getD b.toNat soZ)) size (i,a,b)).1
   else((aQ r (Y8 r.strat e (r.sorts.getD a.toNat soZ) (r.sorts.getD b.toNat soZ)) size (i,a,b)).1,false)
  else Q0 size a b l (i+1) r
structure yU(Hb:d9)(rb lw:Nat)(W0:LV)(b2 b3 b4:Nat)(size:Int):Prop where
 g2:Hb.get b2=cE [pT rb] 1
 g3:Hb.get b3=cE [iV size] 1
 g4:∃v,Hb.get b4=cE [v] 1
 ne:∀j,(j=b2\/j=b3\/j=b4)->lw<=j/\j≠rb/\∀w∈W0,¬j9 w j
theorem yU.at_{u:d9}{E O:Nat}{I:LV}{y z D:Nat}{size:Int}(h:yU u E O I y z D size){W:LV}{H:d9}(S:Z1 E O I u W H):H.get y=cE [pT E] 1/\H.get z=cE [iV size] 1/\∃v,H.get D=cE [v] 1:=by
 obtain⟨v,J⟩:=h.g4;have k:∀j,(j=y\/j=z\/j=D)->j<u.next->H.get j=u.get j:=fun j U X=>by
  have:=h.ne j U;exact S.but j X this.2.1 this.2.2
 exact⟨(k y (.inl rfl) (u6 h.g2)).trans h.g2,(k z (.inr (.inl rfl)) (u6 h.g3)).trans h.g3,v,(k D (.inr (.inr rfl)) (u6 J)).trans J⟩
theorem qU(Hs:d9)(lo K:Nat)(rb lw:Nat)(G:Nat->Prop)(rs:LV)(vl:Value)(W0:LV)(Hb:d9)(b2 b3 b4:Nat)(size a b:Int)(h0:0<=size)(n:Nat)(a4:yU Hb rb lw W0 b2 b3 b4 size)(m4:lo<=lw)(g7:∀j,j<lo->Hb.get j=Hs.get j) (va:Option Addr) (vc:Nat) (I:List EvD) (e4:vl= .slice va I.length vc) (O:ReD×Bool):
  ∀kk e H,(∃(i:Nat)(r:ReD)(U W X:Value),kk=I.length-i/\i<=I.length/\e.get 2=pT b2/\e.get 3=pT b3/\e.get 4=pT b4/\e.get 5=iV a/\e.get 6=iV b/\e.get 17=vl/\e.get 18=iV I.length/\e.get 19=iV i/\
    r.labels=I/\R0 (QR Hs lo K false) (QR Hs lo K true) H rb lw G r rs vl U W X/\Z1 rb lw W0 Hb [U,W,X] H/\WfR r n/\Q0 size a b (I.drop i) i r=O)->
  u9 (LE prog O8 (.loop Fz) e H) (fun o e H=>(o= .exit 2/\O.2=true/\∃U W X,R0 (QR Hs lo K false) (QR Hs lo K true) H rb lw G O.1 rs vl U W X/\Z1 rb lw W0 Hb [U,W,X] H/\WfR O.1 n)\/(o= .ret/\O.2=false/\H.get b4=cE [.bool false] 1/\i4 lw Hb H)):=by
 refine j7 _ _ ?_;rintro kk e H ⟨i,r,U,W,X,hk,hi,f2,f3,f4,f5,f6,f17,f18,f19,a5,hR,hT,u,y⟩;obtain⟨g2,g3,w4,g4⟩:=a4.at_ hT;have h2:=u.ll;rw[a5]at h2;rcases bd:decide ((i:Int)<I.length)with _|_
 .have g6:=dF bd;have:I.drop i=[]:=dN oM;rw[this,Q0]at y;refine J3 f19 f18 bd ?_;exact l7 (.inl ⟨rfl,by rw[<-y],U,W,X,by rw[<-y];exact hR,hT,by rw[<-y];exact u⟩)
 have g6:=dT bd;have h1:i<I.length:=oM;have b9:=hR.lb;rw[a5,e4]at b9;obtain⟨ev,nb,o,cs,own,el,hx,hd,rfl,k9,hg,m3,a6,hc,d1⟩:=b9.row (i:=i) h1;rw[hd,Q0]at y;have nt:(i:Int).toNat=i:=tN i;have g8:ev∈r.labels:=by rw[a5];exact mG hx
 obtain⟨av,b5,g5⟩:=id d1;obtain⟨aa,ac,rfl⟩:=g5.slice;have b7:el.length=5:=by rw[b5];rfl
 have b0:el.all oC=true:=by rw[b5];rfl
 have e9:el[0]?=some (.int .i64 ev.kind):=by rw[b5];rfl
 have S:=f17;rw[e4]at S;obtain⟨H1,b1,n1,g1,-⟩:=pushE H (bC [iV 0,.string eB,.string eB,nS,.string eB] 1);have c8:el.take 5=el:=List.take_of_length_le oM;obtain⟨H2,a1⟩:=eY (H1.put H.next (bC el 1));have n2:H2.next=H.next+1:=by rw[a1,j5,n1]
 have sp:splice [iV 0,.string eB,.string eB,nS,.string eB] 0 el=el:=by rw[b5];rfl
 have hS:i4 H.next H H2:=by rw[a1,b1];exact(i4.push lR).trans (i4.put lR)
 have ge:H2.get H.next=cE el 1:=by rw[a1];exact i8 oM
 have D:=hR.keep hS;have a2:=D.g;have m7:=u6 hR.g;have m5:=hR.nb.1;have l2:b2<H.next:=u6 g2;have l3:b3<H.next:=u6 g3;have l4:b4<H.next:=u6 g4;have c4:=(hS.get b2 l2).trans g2;have d0:=(hS.get b3 l3).trans g3;have k6:=(hS.get b4 l4).trans g4;obtain⟨q8,q9,i2,i3⟩:=D.at_;have h5:=hR.rsl;have c6:Z1 rb lw W0 Hb [U,W,X] H2:=hT.trans (Z1.of hS oM);have a9:=GG H2 rb _ true 1 a2 r.sorts U D.so.sl q9 el ev b7 b0 e9 a b;have c3:∀(e':Env)(H':d9)(r':ReD)(y1 y2 y3:Value),e'.get 2=pT b2->e'.get 3=pT b3->e'.get 4=pT b4->e'.get 5=iV a->e'.get 6=iV b->e'.get 17=vl->e'.get 18=iV I.length->e'.get 19=iV (i+1:Nat)->
   r'.labels=I->R0 (QR Hs lo K false) (QR Hs lo K true) H' rb lw G r' rs vl y1 y2 y3->Z1 rb lw W0 Hb [y1,y2,y3] H'->WfR r' n->Q0 size a b (I.drop (i+1)) (i+1) r'=O->
   ∃(i:Nat)(r:ReD)(U W X:Value),kk-1=I.length-i/\i<=I.length/\e'.get 2=pT b2/\e'.get 3=pT b3/\e'.get 4=pT b4/\e'.get 5=iV a/\e'.get 6=iV b/\e'.get 17=vl/\e'.get 18=iV I.length/\e'.get 19=iV i/\
    r.labels=I/\R0 (QR Hs lo K false) (QR Hs lo K true) H' rb lw G r rs vl U W X/\Z1 rb lw W0 Hb [U,W,X] H'/\WfR r n/\Q0 size a b (I.drop i) i r=O:=
  fun e' H' r' y1 y2 y3 p1 p2 p3 p4 p5 p6 p7 p8 p9 h7 h8 h9 i0=>⟨i+1,r',y1,y2,y3,oM,oM,p1,p2,p3,p4,p5,p6,p7,p8,p9,h7,h8,h9,i0⟩
 have nx:((i:Int)+1)=((i+1:Nat):Int):=oM;obtain⟨j0,J⟩:=eY (rs++[vl,U,W,X]);have e7:ldC (some true) (some 8) 0 j0=some (.agg rs.toArray):=by
  rw[aA1 _ _ _ (by rw[J];simp [h5]),J,List.drop_zero,List.take_append_of_le_length oM,List.take_of_length_le oM]
 rw[<-J]at a2 q8 q9 i2 i3;rcases bm:iH r.sorts ev.kind a b with _|_
 .rw[bm]at a9 y;simp only[bF]at y;refine J21 f2 f5 f6 S f18 f19 bd hg nt a6 b1.symm g1 b7 b0 c8 sp a1.symm ge c4 a9 @wrap_small ?_;exact i6 (kk-1) oM (c3 _ _ r U W X f2 f3 f4 f5 f6 f17 f18 (by rw[<-nx];rfl) a5 D c6 u y)
 .rw[bm]at a9 y;simp only[if_true]at y;have c9:=bm;simp only[iH,knB,Bool.and_eq_true,decide_eq_true_eq]at c9;obtain⟨⟨⟨l5,l6⟩,l8,m0⟩,_⟩:=c9;have b6:=D.so.sl;have j3:=b6;obtain⟨sa,sc,rfl⟩:=b6.slice;obtain⟨fi,h6,oa,k1,j4,f0,e5,_,e1,k7,c7,j1,a7,m1,g9⟩:=b6.row (i:=a.toNat) oM;obtain⟨ne,m8,ob,k5,k0,f1,e6,_,e2,k8,d5,j2,a8,m2,e3⟩:=b6.row (i:=b.toNat) oM;obtain rfl:f0=soE fi:=g9;obtain rfl:f1=soE ne:=e3;subst e1;cases e2;rw[c7]at d5;cases d5;have d4:r.sorts.getD a.toNat soZ=fi:=by rw[List.getD_eq_getElem?_getD,e5];rfl
  have d6:r.sorts.getD b.toNat soZ=ne:=by rw[List.getD_eq_getElem?_getD,e6];rfl
  rw[d4,d6]at y;have d8:=nu Hs lo K r.strat ev fi ne G H2 rs el D.st (w9 _ _ _ _ _ _ d1 (fun j hj=>hS.get j (hR.fr j hj).1) (fun _ h=>h)) (fun j hj=>(D.fr j hj).1) (fun j hj=>by rw[c6.stay.get j oM];exact g7 j hj) (oN (u6 a2)) n u.n0 u.st (u.so fi (mG e5)) (u.so ne (mG e6)) (u.at_ ev g8) u.sz;have d3:=Oc (QR Hs lo K false) (QR Hs lo K true) H2 rb lw G r rs vl (.slice (some ⟨h6,oa,none⟩) r.sorts.length sc) W X D (Y8 r.strat ev fi ne) size (i,a,b) (oN (u.l1)) (by have:=u.l1;have:=u.l2;omega) (by have:=u.l1;have:=u.l3;omega);obtain⟨m9,m6,H3,E,b8,h3,y1,y2,y3,d2,g0⟩:=d3;subst h3;have a3:=c6.trans g0;have c0:=u.add (Cj r.strat ev fi ne u.n0) h0 (i,a,b);obtain⟨i1,e8,_,_⟩:=fy r (Y8 r.strat ev fi ne) size (i,a,b);obtain⟨z,hz⟩:=eY (aQ r (Y8 r.strat ev fi ne) size (i,a,b));rw[<-hz]at E d2 c0 i1 e8 y;obtain⟨k2,k3,w5,k4⟩:=a4.at_ a3;rcases bz:z.2 with _|_
  .rw[bz]at E y;simp only[bF]at y;have h4:b4<H3.next:=u6 k4;obtain⟨H4,c5⟩:=eY (H3.put b4 (bC [.bool false] 1));have e3:=(a4.ne b4 (.inr (.inr rfl))).1;refine J30 f2 f3 f4 f5 f6 S f18 f19 e7 bd hg nt a6 b1.symm g1 b7 b0 c8 sp a1.symm ge c4 d0 a9 a2 q9 (aI c7 a7) (aI a8 d8) (aI E b8) (aI k4 c5.symm) ?_;refine A6 (.inr ⟨rfl,by rw[<-y],by rw[c5];exact i8 h4,?_⟩);rw[c5];exact a3.stay.trans (i4.put oM)
  .rw[bz]at E y;simp only[if_true]at y;refine J30 f2 f3 f5 f6 S f18 f19 e7 bd hg nt a6 b1.symm g1 b7 b0 c8 sp a1.symm ge c4 d0 a9 a2 q9 c7 a7 a8 (aI d8 E) (aI b8 @wrap_small) ?_;exact i6 (kk-1) oM (c3 _ _ z.1 y1 y2 y3 f2 f3 f4 f5 f6 f17 f18 (by rw[<-nx];rfl) (by rw[e8,a5]) d2 a3 c0 y)
end Go.Proofs.YtofbhlhamfkljaaGreatDoor.Ve
namespace Go.Proofs.YtofbhlhamfkljaaGreatDoor.Ve
open Go
theorem kr{i:Nat}{p q:Nat->Bool}:∀m,i<m->(∀j,j<m->j≠i->p j=q j)->p i=true->q i=false->(List.range m).countP p=(List.range m).countP q+1:=by
 intro m;induction m with
 |zero=>intro h;omega
 |succ m I=>
  intro J h z D;rw[List.range_succ,List.countP_append,List.countP_append,List.countP_singleton,List.countP_singleton];by_cases y:i=m
  .subst y;have:(List.range i).countP p=(List.range i).countP q:=List.countP_congr fun x E=>by rw[h x (oN (List.mem_range.1 E)) (oN (List.mem_range.1 E))]
   rw[this,z,D];rfl
  .rw[I oM (fun j O u=>h j oM u) z D,h m oM (fun q=>y q.symm)];omega
def unl(m:Nat)(L:Array Bool):Nat:=(List.range m).countP fun i=> !L.getD i true
def X6(md:Region.Mode)(ops:Array Oper)(i:Nat):List Nat:=((ops[i]?).map fun o=>(o.after.toList.filter fun e=>Region.binds md e).map (·.on)).getD []
theorem X4{md:Region.Mode}{ops:Array Oper}{L:Array Bool}{i:Nat}:i∈Region.ready md ops L↔i<ops.size/\L.getD i true=false/\∀d∈X6 md ops i,L.getD d false=true:=by
 unfold Region.ready X6;rw[List.mem_filter,List.mem_range]
 constructor
 .rintro⟨h,u⟩;simp only[Bool.and_eq_true,Bool.not_eq_true']at u;refine⟨h,u.1,fun d z=>?_⟩;have E:ops[i]?=some ops[i]:=Array.getElem?_eq_getElem h;rw[E]at u z;simp only[Option.map_some,Option.getD_some,List.mem_map,List.mem_filter]at u z;obtain⟨e,⟨D,y⟩,rfl⟩:=z;have:=Array.all_eq_true'.1 u.2 e (by simpa using D);simp only[y,Bool.not_true,Bool.false_or]at this;exact this
 .rintro⟨h,I,u⟩;refine⟨h,?_⟩;have E:ops[i]?=some ops[i]:=Array.getElem?_eq_getElem h;rw[E]at u ⊢;simp only[Option.map_some,Option.getD_some,Bool.and_eq_true,Bool.not_eq_true']at u ⊢;refine⟨I,Array.all_eq_true'.2 fun e D=>?_⟩;by_cases y:Region.binds md e=true
  .rw[u e.on (List.mem_map.2 ⟨e,List.mem_filter.2 ⟨by simpa using D,y⟩,rfl⟩)];simp
  .simp [y]
theorem R5(L:Array Bool)(i j:Nat)(d:Bool):(L.setIfInBounds i true).getD j d=if i=j then(if j<L.size then true else d) else L.getD j d:=by
 rw[Array.getD_eq_getD_getElem?,Array.getElem?_setIfInBounds,Array.getD_eq_getD_getElem?];by_cases h:i=j
 .subst h;by_cases u:i<L.size
  .simp [u]
  .simp [u]
 .simp [h]
theorem aq{L:Array Bool}{i:Nat}(h:i<L.size)(a b:Bool):L.getD i a=L.getD i b:=by
 rw[Array.getD_eq_getD_getElem?,Array.getD_eq_getD_getElem?,Array.getElem?_eq_getElem h];rfl
structure am5(md:Region.Mode)(ops pre:Array Oper):Prop where
 le:pre.size<=ops.size
 pos:0<pre.size
 same:∀i:Nat,i<pre.size->ops[i]?=pre[i]?
 plain:∀(i:Nat)(o:Oper),pre[i]?=some o->o.guard=none
 back:∀i,i<pre.size->∀d∈X6 md ops i,d<i
 used:∀i,i+1<pre.size->∃j,i<j/\j<pre.size/\i∈X6 md ops j
 later:∀i,pre.size<=i->i<ops.size->∃d,d∈X6 md ops i/\pre.size<=d+1
structure vX(ops pre:Array Oper)(md:Region.Mode)(L L':Array Bool):Prop where
 s1:L.size=ops.size
 s2:L'.size=pre.size
 eq:∀i,i<pre.size->L.getD i true=L'.getD i true
 off:∀i,pre.size<=i->i<ops.size->L.getD i true=false
 cl:∀i,i<pre.size->L'.getD i true=true->∀d∈X6 md ops i,L'.getD d true=true
section
variable{F:Fence}{n:Nat}{P:Program}{ops pre:Array Oper}{md:Region.Mode}{Q Q':Exit->Act->World->Prop}
theorem mY(h:am5 md ops pre){L I:Array Bool}(r:vX ops pre md L I)(W:I.getD (pre.size-1) true=false){i:Nat}:i∈Region.ready md ops L↔i∈Region.ready md pre I:=by
 have hp:=h.pos;have X:=h.le;have w:∀i,i<pre.size->X6 md ops i=X6 md pre i:=fun i y=>by unfold X6;rw[h.same i y]
 rw[X4,X4]
 constructor
 .rintro⟨z,J,E⟩;by_cases y:i<pre.size
  .refine⟨y,(r.eq i y)▸J,fun d u=>?_⟩;rw[<-w i y]at u;have O:=h.back i y d u;have:=E d u;rw[aq (by rw[r.s1];omega) false true,r.eq d oM]at this;rw[aq (by rw[r.s2];omega) false true];exact this
  .obtain⟨d,u,U⟩:=h.later i oM z;have:=E d u
   exfalso
   by_cases S:d<pre.size
   .have e:d=pre.size-1:=oM;rw[aq (by rw[r.s1];omega) false true,r.eq d S,e,W]at this;cases this
   .by_cases D:d<ops.size
    .rw[aq (by rw[r.s1];exact D) false true,r.off d oM D]at this;cases this
    .rw[Array.getD_eq_getD_getElem?,Array.getElem?_eq_none (by rw[r.s1];omega)]at this;cases this
 .rintro⟨z,J,E⟩;refine⟨oM,(r.eq i z).symm▸J,fun d u=>?_⟩;have O:=h.back i z d u;rw[w i z]at u;have:=E d u;rw[aq (by rw[r.s2];omega) false true]at this;rw[aq (by rw[r.s1];omega) false true,r.eq d oM];exact this
theorem vq(h:am5 md ops pre){L u:Array Bool}(r:vX ops pre md L u)(E:u.getD (pre.size-1) true=true):∀i,i<pre.size->u.getD i true=true:=by
 have:∀k i,i+k+1=pre.size->u.getD i true=true:=by
  intro k;induction k using Nat.strongRecOn with
  |ind k I=>
   intro i D;by_cases O:i+1=pre.size
   .have:i=pre.size-1:=oM;rw[this];exact E
   .obtain⟨j,J,y,z⟩:=h.used i oM;exact r.cl j y (I (pre.size-1-j) oM j oM) i z
 exact fun i D=>this (pre.size-1-i) i oM
theorem mX(h:am5 md ops pre){L y:Array Bool}(r:vX ops pre md L y)(S:y.getD (pre.size-1) true=false):∃i,i∈Region.ready md pre y:=by
 have hp:=h.pos;have:∀k i,i<=k->i<pre.size->y.getD i true=false->∃j,j∈Region.ready md pre y:=by
  intro k;induction k with
  |zero=>
   intro i O u E;refine⟨i,X4.2 ⟨u,E,fun d z=>?_⟩⟩;have:=h.back i u d (by unfold X6 at z ⊢;rw[h.same i u];exact z);omega
  |succ k W=>
   intro i O u E;by_cases I:∃j,j<i/\y.getD j true=false
   .obtain⟨j,X,J⟩:=I;exact W j oM oM J
   .refine⟨i,X4.2 ⟨u,E,fun d z=>?_⟩⟩;have D:=h.back i u d (by unfold X6 at z ⊢;rw[h.same i u];exact z);rw[aq (by rw[r.s2];omega) false true];cases U:y.getD d true with
    |true=>rfl
    |false=>exact absurd ⟨d,D,U⟩ I
 exact this (pre.size-1) (pre.size-1) lR oM S
theorem Hp(h:am5 md ops pre)(k:Nat)(Lm:Array Bool)(a4:∀L z,vX ops pre md L z->(∀i,i<pre.size->z.getD i true=true)->L=Lm)
  (I:∀c a w,Q' (.panic c) a w->Q (.panic c) a w) (a3:∀a w,Q' .normal a w->wpAnyIn F n P md ops Q k Lm a w) (W:LetsOut Q'->LetsOut Q):
  ∀u L z a w,vX ops pre md L z->unl pre.size z=u->wpAnyIn F n P md pre Q' u z a w->wpAnyIn F n P md ops Q (u+k) L a w:=by
 have hp:=h.pos;intro u;induction u with
 |zero=>
  intro L z a w r hu hw;have hl:z.getD (pre.size-1) true=true:=by
   cases X:z.getD (pre.size-1) true with
   |true=>rfl
   |false=>
    obtain⟨i,hi⟩:=mX h r X;rw[hw.1]at hi;cases hi
  rw[Nat.zero_add,a4 L z r (vq h r hl)];exact a3 a w hw.2
 |succ u ih=>
  intro L z a w r hu hw;have hl:z.getD (pre.size-1) true=false:=by
   cases X:z.getD (pre.size-1) true with
   |false=>rfl
   |true=>
    have:unl pre.size z=0:=by
     unfold unl;rw[List.countP_eq_zero];intro i hi;rw[vq h r X i (List.mem_range.1 hi)];decide
    omega
  obtain⟨i0,a6⟩:=mX h r hl;rw[show u+1+k=(u+k)+1 from oM];refine⟨fun q=>?_,fun i hi=>?_⟩
  .have:=(mY h r hl).2 a6;rw[q]at this;cases this
  .have a1:=(mY h r hl).1 hi;obtain⟨O,a7,a8⟩:=X4.1 a1;have y:=hw.2 i a1;have ho:pre[i]?=some pre[i]:=Array.getElem?_eq_getElem O;have b1:ops[i]?=some pre[i]:=(h.same i O).trans ho;have hg:=h.plain i _ ho;have r2:vX ops pre md (L.setIfInBounds i true) (z.setIfInBounds i true):=by
    refine⟨by simp [r.s1],by simp [r.s2],fun j S=>?_,fun j S a9=>?_,fun j S X d hd=>?_⟩
    .rw[R5,R5,r.s1,r.s2,if_pos (show j<ops.size by have:=h.le;omega),if_pos S,r.eq j S]
    .rw[R5,if_neg oM];exact r.off j S a9
    .have b4:=h.back j S d hd;rw[R5]at X ⊢;by_cases a2:i=j
     .subst a2;have a5:d∈X6 md pre i:=by unfold X6 at hd ⊢;rw[<-h.same i S];exact hd
      have:=a8 d a5;rw[aq (by rw[r.s2];omega) false true]at this;by_cases E:i=d
      .rw[if_pos E,if_pos (by rw[r.s2];omega)]
      .rw[if_neg E];exact this
     .rw[if_neg a2]at X;have:=r.cl j S X d hd;by_cases E:i=d
      .rw[if_pos E,if_pos (by rw[r.s2];omega)]
      .rw[if_neg E];exact this
   have U:unl pre.size (z.setIfInBounds i true)=u:=by
    have:=kr (i:=i) (p:=fun j=> !z.getD j true) (q:=fun j=> !(z.setIfInBounds i true).getD j true) pre.size O (fun j S b0=>by
     simp only[R5];rw[if_neg (fun q=>b0 q.symm)]) (by show(!z.getD i true)=true;rw[a7];rfl) (by show(!(z.setIfInBounds i true).getD i true)=false;rw[R5,if_pos rfl,if_pos (by rw[r.s2];exact O)];rfl)
    unfold unl at hu ⊢;omega
   unfold wpOpIn at y ⊢;simp only[ho,b1]at y ⊢;have b2:∀v,Region.wanted pre[i] v=true:=fun v=>by unfold Region.wanted;rw[hg]
   simp only[b2,if_true]at y ⊢;refine⟨y.1,?_⟩;have D:=y.2;generalize (pre[i].semAt F.round a.eval).run P w=res at D ⊢;cases res with
   |ok x w'=>
    cases x<;>simp only[Oper.uponIn]at D ⊢ <;>
     first
      |exact ih _ _ _ _ r2 U D
      |exact⟨D.1,CallsIn.mono D.2 (fun e b3 J=>by cases e<;>first|exact ih _ _ _ _ r2 U J|exact I _ _ _ J|exact W J)⟩
      |exact⟨D.1,RowsIn.mono D.2 (fun _ _ J=>ih _ _ _ _ r2 U J)⟩
      |exact⟨D.1,RoundIn.mono D.2 (fun e b3 J=>by cases e<;>first|exact ih _ _ _ _ r2 U J|exact I _ _ _ J|exact W J)⟩
   |halt x w'=>cases x<;>simp only[Oper.uponIn]at D ⊢ <;>first|exact I _ _ _ D|exact D
end
structure uX(md:Region.Mode)(pre:Array Oper):Prop where
 plain:∀(i:Nat)(o:Oper),pre[i]?=some o->o.guard=none/\o.dst.isSome=true/\(∀cs b,o.op≠ .select cs b)/\(∀c,o.op≠ .defer c)
 apart:∀(i j:Nat)(oi oj:Oper),pre[i]?=some oi->pre[j]?=some oj->i≠j->oi.dst≠oj.dst
 reads:∀(i j:Nat)(oi oj:Oper)(t:Tmp),pre[i]?=some oi->pre[j]?=some oj->Operand.tmp t∈oi.op.operands->oj.dst=some t->j∈X6 md pre i
structure yX(pre:Array Oper)(a0 af:Act)(L:Array Bool)(a:Act):Prop where
 sz:L.size=pre.size
 ts:a.tmps.size=a0.tmps.size
 df:a.defers=a0.defers
 on:∀(j:Nat)(o:Oper)(t:Tmp),pre[j]?=some o->o.dst=some t->L.getD j true=true->a.tmps.getD t undef=af.tmps.getD t undef
 off:∀t,(∀(j:Nat)(o:Oper),pre[j]?=some o->o.dst=some t->L.getD j true=false)->a.tmps.getD t undef=a0.tmps.getD t undef
theorem uZ{a b:Act}(h:a.tmps.size=b.tmps.size)(u:a.defers=b.defers)(y:∀t,a.tmps.getD t undef=b.tmps.getD t undef):a=b:=by
 obtain⟨z,I⟩:=a;obtain⟨O,J⟩:=b;simp only at h u y;subst u
 congr 1
 apply Array.ext h;intro i D E;have:=y i;rw[Array.getD_eq_getD_getElem?,Array.getD_eq_getD_getElem?,Array.getElem?_eq_getElem D,Array.getElem?_eq_getElem E]at this;exact this
theorem Ck{n:Nat}{P:Program}{pre:Array Oper}{md:Region.Mode}{Q:Exit->Act->World->Prop}(h:uX md pre){a0 af:Act}{w:World}(hs:af.tmps.size=a0.tmps.size)(hd:af.defers=a0.defers)
  (U:∀t,(∀(j:Nat)(o:Oper),pre[j]?=some o->o.dst≠some t)->af.tmps.getD t undef=a0.tmps.getD t undef) (a7:∀(j:Nat)(o:Oper)(t:Tmp),pre[j]?=some o->o.dst=some t->t<a0.tmps.size)
  (a1:∀(i:Nat)(o:Oper)(t:Tmp),pre[i]?=some o->o.dst=some t->(execOp af.eval o).run P w= .ok (.value (af.tmps.getD t undef)) w) (hQ:Q .normal af w)
  (X:∀L:Array Bool,L.size=pre.size->Region.ready md pre L=[]->∀i,i<pre.size->L.getD i true=true):
  ∀z L a,yX pre a0 af L a->unl pre.size L<=z->wpAnyIn Fence.wide n P md pre Q z L a w:=by
 have done:∀L a,yX pre a0 af L a->(∀i,i<pre.size->L.getD i true=true)->a=af:=fun L a r S=>by
  refine uZ (r.ts.trans hs.symm) (r.df.trans hd.symm) fun t=>?_;by_cases E:∃(j:Nat)(o:Oper),pre[j]?=some o/\o.dst=some t
  .obtain⟨j,o,y,D⟩:=E;exact r.on j o t y D (S j (gA y).1)
  .rw[U t (fun j o y D=>E ⟨j,o,y,D⟩)];exact r.off t fun j o y D=>absurd ⟨j,o,y,D⟩ E
 intro z;induction z with
 |zero=>
  intro L a r hu;have S:∀i,i<pre.size->L.getD i true=true:=fun i hi=>by
   have h0:unl pre.size L=0:=oM;unfold unl at h0;rw[List.countP_eq_zero]at h0;have:=h0 i (List.mem_range.2 hi)
   simpa using this
  refine⟨?_,(done L a r S)▸hQ⟩;cases hr:Region.ready md pre L with
  |nil=>rfl
  |cons i is=>
   have:=(X4.1 (show i∈Region.ready md pre L by rw[hr];simp))
   rw[S i this.1]at this;cases this.2.1
 |succ z ih=>
  intro L a r hu;refine⟨fun q=>(done L a r (X L r.sz q))▸hQ,fun i hi=>?_⟩;obtain⟨O,a6,a8⟩:=X4.1 hi;have W:pre[i]?=some pre[i]:=Array.getElem?_eq_getElem O;obtain⟨hg,a4,a2,b3⟩:=h.plain i _ W;obtain⟨t,ht⟩:=Option.isSome_iff_exists.1 a4;have b1:=a7 i _ t W ht;unfold wpOpIn;simp only[W];have b2:∀v,Region.wanted pre[i] v=true:=fun v=>by unfold Region.wanted;rw[hg]
  simp only[b2,if_true];have a5:∀x∈pre[i].op.operands,a.eval x=af.eval x:=fun x hx=>by
   cases x with
   |tmp u=>
    show a.tmps.getD u undef=af.tmps.getD u undef;by_cases E:∃(j:Nat)(o:Oper),pre[j]?=some o/\o.dst=some u
    .obtain⟨j,o,y,D⟩:=E;have a9:=(gA y).1;have hw:=a8 j (h.reads i j _ o u W y hx D);rw[aq (by rw[r.sz];exact a9) false true]at hw;exact r.on j o u y D hw
    .rw[U u (fun j o y D=>E ⟨j,o,y,D⟩)];exact r.off u fun j o y D=>absurd ⟨j,o,y,D⟩ E
   |_=>rfl
  refine⟨fun _ _=>trivial,?_⟩;have e1:pre[i].semAt Fence.wide.round a.eval=execOp af.eval pre[i]:=(Oper.semAt_none _ _).trans (execOp_congr _ a2 a5);rw[e1,a1 i _ t W ht,Oper.uponIn_value,ht];refine ih _ _ ⟨by simp [r.sz],?_,?_,fun j o u y D S=>?_,fun u a3=>?_⟩ ?_
  .show(a.tmps.setIfInBounds t _).size=_;rw[Array.size_setIfInBounds];exact r.ts
  .exact r.df
  .show(a.tmps.setIfInBounds t _).getD u undef=_;rw[Array.getD_eq_getD_getElem?,Array.getElem?_setIfInBounds];by_cases I:t=u
   .rw[if_pos I,if_pos (by rw[r.ts];exact I▸b1),I];rfl
   .rw[if_neg I,<-Array.getD_eq_getD_getElem?];rw[R5]at S;by_cases J:i=j
    .subst J;rw[W]at y;cases y;exact absurd (Option.some.inj (ht.symm.trans D)) I
    .rw[if_neg J]at S;exact r.on j o u y D S
  .show(a.tmps.setIfInBounds t _).getD u undef=_;have I:t≠u:=fun q=>by
    have:=a3 i _ W (q▸ht);rw[R5,if_pos rfl,if_pos (by rw[r.sz];exact O)]at this;cases this
   rw[Array.getD_eq_getD_getElem?,Array.getElem?_setIfInBounds,if_neg I,<-Array.getD_eq_getD_getElem?];refine r.off u fun j o y D=>?_;have:=a3 j o y D;rw[R5]at this;by_cases J:i=j
   .rw[if_pos J]at this;split at this
    .cases this
    .cases this
   .rw[if_neg J]at this;exact this
  .have:=kr (i:=i) (p:=fun j=> !L.getD j true) (q:=fun j=> !(L.setIfInBounds i true).getD j true) pre.size O (fun j hj b0=>by
    simp only[R5];rw[if_neg (fun q=>b0 q.symm)]) (by show(!L.getD i true)=true;rw[a6];rfl) (by show(!(L.setIfInBounds i true).getD i true)=false;rw[R5,if_pos rfl,if_pos (by rw[r.sz];exact O)];rfl)
   unfold unl at hu ⊢;omega
theorem am5.least{md:Region.Mode}{pre:Array Oper}(u:∀i,i<pre.size->∀d∈X6 md pre i,d<i) {L:Array Bool} (hs:L.size=pre.size) (z:Region.ready md pre L=[]):∀i,i<pre.size->L.getD i true=true:=by
 intro i;induction i using Nat.strongRecOn with
 |ind i E=>
  intro h;cases D:L.getD i true with
  |true=>rfl
  |false=>
   have:i∈Region.ready md pre L:=X4.2 ⟨h,D,fun d y=>by
    have:=u i h d y;rw[aq (by rw[hs];omega) false true];exact E d this oM⟩
   rw[z]at this;cases this
def Ba(t:Tmp)(x:Operand):Bool:=match x with| .tmp u=>u==t|_=>false
def ul(o:Oper):Bool:=o.guard.isNone&&o.dst.isSome&&(match o.op with| .select .. =>false| .defer .. =>false|_=>true)
def Hi(l:List Oper)(m:Nat):Bool:=
 let ops:=l.toArray
 let pre:=(l.take m).toArray
 decide (0<m)&&decide (m<=l.length)&&(List.range m).all (fun i=>(X6 .any ops i).all fun d=>decide (d<i))&&(List.range m).all (fun i=>decide (m<=i+1)||(List.range m).any fun j=>decide (i<j)&&(X6 .any ops j).contains i)&&
 (List.range l.length).all (fun i=>decide (i<m)||(X6 .any ops i).any fun d=>decide (m<=d+1))&&(l.take m).all ul&&
 (List.range m).all (fun i=>(List.range m).all fun j=>match pre[i]?,pre[j]? with
  |some oi,some oj=>(decide (i=j)||decide (oi.dst≠oj.dst))&&(match oj.dst with|some t=> !(oi.op.operands.toList.any (Ba t))||(X6 .any pre i).contains j|none=>true)
  |_,_=>false)
theorem wY{l:List Oper}{m:Nat}(h:Hi l m=true):am5 .any l.toArray (l.take m).toArray/\uX .any (l.take m).toArray/\m<=l.length:=by
 simp only[Hi,Bool.and_eq_true,decide_eq_true_eq,List.all_eq_true,List.mem_range]at h;obtain⟨⟨⟨⟨⟨⟨h0,W⟩,h2⟩,h3⟩,h4⟩,X⟩,h6⟩:=h;have hs:(l.take m).toArray.size=m:=by simp;omega
 have E:∀i:Nat,i<m->l.toArray[i]?=(l.take m).toArray[i]?:=fun i u=>by simp [u]
 refine⟨⟨by rw[hs];simpa using W,by rw[hs];exact h0,fun i u=>E i (by rw[hs]at u;exact u),fun i o O=>?_,fun i u d hd=>?_,fun i u=>?_,fun i u I=>?_⟩,⟨fun i o O=>?_,fun i j oi oj u D J=>?_,fun i j oi oj t u D hx ht=>?_⟩,W⟩
 .have:=X o (by simpa using Array.mem_of_getElem? O);simp only[ul,Bool.and_eq_true]at this
  simpa using this.1.1
 .rw[hs]at u;exact h2 i u d hd
 .rw[hs]at u ⊢;have:=h3 i oM;simp only[Bool.or_eq_true,decide_eq_true_eq,List.any_eq_true,List.mem_range,Bool.and_eq_true,List.contains_iff_mem]at this;rcases this with q|⟨j,S,U,q3⟩
  .omega
  .exact⟨j,U,S,q3⟩
 .rw[hs]at u ⊢;have:=h4 i (by simpa using I);simp only[Bool.or_eq_true,decide_eq_true_eq,List.any_eq_true]at this;rcases this with q|⟨d,S,U⟩
  .omega
  .exact⟨d,S,U⟩
 .have:=X o (by simpa using Array.mem_of_getElem? O);simp only[ul,Bool.and_eq_true]at this;refine⟨by simpa using this.1.1,this.1.2,fun cs b e=>?_,fun c e=>?_⟩
  .rw[e]at this;cases this.2
  .rw[e]at this;cases this.2
 .have y:=(gA u).1;have z:=(gA D).1;rw[hs]at y z;have:=h6 i y j z;rw[u,D]at this;simp only[Bool.and_eq_true,Bool.or_eq_true,decide_eq_true_eq]at this;exact this.1.resolve_left J
 .have y:=(gA u).1;have z:=(gA D).1;rw[hs]at y z;have:=h6 i y j z;rw[u,D]at this;simp only[Bool.and_eq_true,ht,Bool.or_eq_true,Bool.not_eq_true',List.contains_iff_mem]at this;rcases this.2 with q|q
  .have h7:oi.op.operands.toList.any (Ba t)=true:=List.any_eq_true.2 ⟨_,by simpa using hx,by simp [Ba]⟩;rw[h7]at q;cases q
  .exact q
def S5(a:Act):List (Nat×Value)->Act
 |[]=>a
 |(d,v)::r=>S5 (a.put (some d) v) r
theorem bJ:∀(h:List (Nat×Value))(a:Act),(S5 a h).tmps.size=a.tmps.size/\(S5 a h).defers=a.defers
 |[],a=>⟨rfl,rfl⟩
 |(d,v)::r,a=>by
  have:=bJ r (a.put (some d) v);exact⟨this.1.trans (by simp [Act.put]),this.2⟩
theorem nO:∀(u:List (Nat×Value))(a:Act)(t:Nat),(∀p∈u,p.1≠t)->(S5 a u).tmps.getD t undef=a.tmps.getD t undef
 |[],a,t,h=>rfl
 |(d,v)::r,a,t,h=>by
  rw[S5,nO r _ t (fun p y=>h p (by simp [y]))];show(a.tmps.setIfInBounds d v).getD t undef=_;rw[Array.getD_eq_getD_getElem?,Array.getElem?_setIfInBounds,if_neg (h (d,v) sM),<-Array.getD_eq_getD_getElem?]
def lX(P:Program)(af:Act)(w:World):List Oper->Prop
 |[]=>True
 |o::r=>(match o.dst with|some t=>(execOp af.eval o).run P w= .ok (.value (af.tmps.getD t undef)) w|none=>False)/\lX P af w r
theorem nY{P:Program}{af:Act}{w:World}:∀{l:List Oper}{i:Nat}{o:Oper}{t:Tmp},lX P af w l->l[i]?=some o->o.dst=some t->(execOp af.eval o).run P w= .ok (.value (af.tmps.getD t undef)) w
 |[],i,o,t,h,hi,ht=>by cases hi
 |x::l,0,o,t,h,hi,ht=>by
  cases hi;have:=h.1;rw[ht]at this;exact this
 |x::l,i+1,o,t,h,hi,ht=>nY (l:=l) (i:=i) h.2 hi ht
def zT(m k:Nat):Array Bool:=(List.replicate m true++List.replicate k false).toArray
theorem lO{n id:Nat}{P:Program}(hm:P.follows .mixedOrders=true){l:List Oper}(m k:Nat)(hl:l.length=m+k)(hB:Hi l m=true){a0:Act}{w:World}(E:List (Nat×Value))(hv:(l.take m).map (·.dst)=E.map fun p=>some p.1) (a4:∀p∈E,p.1<a0.tmps.size)
  {Q:Exit->Act->World->Prop} (W:lX P (S5 a0 E) w.drew (l.take m)) (a1:wpAnyIn Fence.wide n P .any l.toArray Q k (zT m k) (S5 a0 E) w.drew):(Code.region id l.toArray true).wpIn Fence.wide n P Q a0 w:=by
 obtain⟨hc,a5,a6⟩:=wY hB;have hs:(l.take m).toArray.size=m:=by simp;omega
 refine wpIn_region_any hm ?_;have u:l.toArray.size=m+k:=by simpa using hl
 obtain⟨p1,p2⟩:=bJ E a0;have O:∀(j:Nat)(o:Oper)(t:Tmp),(l.take m).toArray[j]?=some o->o.dst=some t->∃p∈E,p.1=t:=fun j o t z J=>by
  have I:some t∈(l.take m).map (·.dst):=List.mem_map.2 ⟨o,by simpa using Array.mem_of_getElem? z,J⟩;rw[hv,List.mem_map]at I;obtain⟨p,U,e⟩:=I;exact⟨p,U,Option.some.inj e⟩
 have D:wpAnyIn Fence.wide n P .any (l.take m).toArray (fun e a w'=>e= .normal/\a=S5 a0 E/\w'=w.drew) m (Array.replicate m false) a0 w.drew:=by
  refine Ck a5 (af:=S5 a0 E) (a0:=a0) p1 p2 (fun t J=>nO E a0 t fun p U e=>?_) (fun j o t z J=>?_) (fun i o t z J=>nY W (by simpa using z) J) ⟨rfl,rfl,rfl⟩ (fun L hL hr=>am5.least (fun i h d hd=>hc.back i h d (by unfold X6 at hd ⊢;rw[hc.same i h];exact hd)) hL hr) m _ _ ⟨by rw[hs];simp,rfl,rfl,fun j o t z J S=>?_,fun _ _=>rfl⟩ ?_
  .have:some p.1∈(l.take m).map (·.dst):=by rw[hv];exact List.mem_map.2 ⟨p,U,rfl⟩
   obtain⟨o,z,e2⟩:=List.mem_map.1 this;obtain⟨j,hj⟩:=List.mem_iff_getElem?.1 z;exact J j o (by simpa using hj) (by rw[e2,e])
  .obtain⟨p,U,e⟩:=O j o t z J;rw[<-e];exact a4 p U
  .have hj:=(gA z).1;rw[hs]at hj;rw[Array.getD_eq_getD_getElem?,Array.getElem?_replicate,if_pos hj]at S;cases S
  .exact Nat.le_trans List.countP_le_length (by rw[List.length_range,hs];exact lR)
 have key:=Hp (F:=Fence.wide) (n:=n) (P:=P) (Q:=Q) hc k (zT m k) (fun L L' r a3=>?_) (fun c a w' q=>by cases q.1) (fun a w' q=>by obtain⟨_,rfl,rfl⟩:=q;exact a1) (fun q=>by obtain⟨a,w',hq⟩:=q;cases hq.1) m (Array.replicate l.toArray.size false) (Array.replicate m false) a0 w.drew ⟨by simp,by rw[hs];simp,fun i h=>?_,fun i h a2=>?_,fun i h X=>?_⟩ ?_ D
 .rw[u]at key ⊢;exact key
 .apply Array.ext
  .rw[r.s1,u];simp [zT]
  .intro i h1 h2;have h:i<m+k:=by rw[r.s1,u]at h1;exact h1
   have e1:L.getD i true=L[i]:=by rw[Array.getD_eq_getD_getElem?,Array.getElem?_eq_getElem h1];rfl
   rw[<-e1];by_cases y:i<m
   .rw[r.eq i (by rw[hs];exact y),a3 i (by rw[hs];exact y)];simp only[zT,List.getElem_toArray];rw[List.getElem_append_left (by simpa using y),List.getElem_replicate]
   .rw[r.off i (by rw[hs];omega) (by rw[u];exact h)];simp only[zT,List.getElem_toArray];rw[List.getElem_append_right (by simpa using Nat.le_of_not_lt y),List.getElem_replicate]
 .rw[hs]at h;rw[Array.getD_eq_getD_getElem?,Array.getElem?_replicate,if_pos (by rw[u];omega),Array.getD_eq_getD_getElem?,Array.getElem?_replicate,if_pos h]
 .rw[Array.getD_eq_getD_getElem?,Array.getElem?_replicate,if_pos a2];rfl
 .rw[hs]at h;rw[Array.getD_eq_getD_getElem?,Array.getElem?_replicate,if_pos h]at X;cases X
 .unfold unl;rw[hs,List.countP_eq_length.2 (fun i h=>by
   rw[Array.getD_eq_getD_getElem?,Array.getElem?_replicate,if_pos (List.mem_range.1 h)];rfl),List.length_range]
end Go.Proofs.YtofbhlhamfkljaaGreatDoor.Ve
namespace Go.Proofs.YtofbhlhamfkljaaGreatDoor
open Go Go.RowKit Go.Shelf Ve
open Go.Proofs.Tryz (prog)
theorem AO:prog.funcs[84]?=some Tryz.f84:=kR
theorem EE:Tryz.f84.ntmps=47:=kR
def gX(ss:Nat->Int)(size:Int)(a k:Nat):List (Nat×Nat):=((List.range k).filter fun b=>decide (ss a+ss b+1=size)).map fun b=>(a,b)
def ak7(ss:Nat->Int)(size:Int)(m a:Nat):List (Nat×Nat):=(List.range a).flatMap fun a=>gX ss size a m
theorem cM(u:Nat->Int)(size:Int)(a k:Nat):gX u size a (k+1)=gX u size a k++(if u a+u k+1=size then [(a,k)] else []):=by
 unfold gX;rw[List.range_succ,List.filter_append,List.map_append,List.filter_cons,List.filter_nil];by_cases h:u a+u k+1=size
 .rw[if_pos (decide_eq_true h),if_pos h];rfl
 .rw[if_neg (by simpa using h),if_neg h];rfl
theorem ir(h:Nat->Int)(size:Int)(m a:Nat):ak7 h size m (a+1)=ak7 h size m a++gX h size a m:=by
 unfold ak7;rw[List.range_succ,List.flatMap_append];simp
structure Rd(p75 i75 p3 i3 rb ro m:Nat)(ss:Nat->Int)(size:Int)(w:World):Prop where
 c75:w.cell? ⟨p75,i75,none⟩=some (.pointer (some ⟨rb,ro,none⟩))
 c3:w.cell? ⟨p3,i3,none⟩=some (.int .i64 size)
 row:∃b o len cap,m<=len/\w.cell? ⟨rb,ro+10,none⟩=some (.slice (some ⟨b,o,none⟩) len cap)/\∀i,i<m->w.cell? ⟨b,o+i,none⟩=some (.int .i64 (ss i))
theorem vV{n:Int}(h: -9223372036854775808<=n)(u:n<=9223372036854775807):IntKind.wrap .i64 n=n:=by
 simp [IntKind.wrap,IntKind.min,IntKind.max,IntKind.signed,IntKind.bits];omega
theorem bn{n:Nat}{P:Program}{ops:Array Oper}{Q:Exit->Act->World->Prop}{u:Nat}{L:Array Bool}{a:Act}{w:World}(i d:Nat){o:Oper}(v:Value)(hs:Region.noSelect ops=true)
  (y:(Region.free .any ops L i&&(Region.ready .any ops L).contains i)=true) (I:ops[i]?=some o) (E:o.dst=some d) (z:∀c a w,Q (.panic c) (a.put (some d) v) w->Q (.panic c) a w) (D:∀w,o.about P w a.eval=none) (J:Yields P ops o v a) (h:wpAnyIn Fence.wide n P .any ops Q u (L.setIfInBounds i true) (a.put (some d) v) w):wpAnyIn Fence.wide n P .any ops Q (u+1) L a w:=by
 simp only[Bool.and_eq_true]at y;rw[<-E]at h z;exact wpAnyIn_take rfl I hs y.1 y.2 z ⟨J,D⟩ h
theorem mc{n:Nat}{P:Program}{ops:Array Oper}{Q:Exit->Act->World->Prop}{u:Nat}{L:Array Bool}{a:Act}{w:World}{i:Nat}{o:Oper}(D:Region.ready .any ops L=[i])(E:ops[i]?=some o)
  (h:if Region.wanted o (yielded ops a.tmps) then o.uponIn Fence.wide n P a (wpAnyIn Fence.wide n P .any ops Q u (L.setIfInBounds i true)) Q ((execOp a.eval o).run P w) else wpAnyIn Fence.wide n P .any ops Q u (L.setIfInBounds i true) (a.put o.dst undef) w):wpAnyIn Fence.wide n P .any ops Q (u+1) L a w:=by
 refine⟨fun q=>(by rw[D]at q;cases q),fun j z=>?_⟩;rw[D,List.mem_singleton]at z;subst z;unfold wpOpIn;simp only[E];split
 .rename_i y;rw[if_pos y]at h;exact⟨fun _ _=>trivial,h⟩
 .rename_i y;rw[if_neg y]at h;exact⟨fun _ _=>trivial,h⟩
theorem me{n:Nat}{P:Program}{ops:Array Oper}{Q:Exit->Act->World->Prop}{u:Nat}{L:Array Bool}{a:Act}{w:World}(i d:Nat){o:Oper}(v:Value)(E:Region.ready .any ops L=[i])(D:ops[i]?=some o)(z:o.dst=some d)(I:Region.wanted o (yielded ops a.tmps)=true)
  (y:(execOp a.eval o).run P w= .ok (.value v) w) (h:wpAnyIn Fence.wide n P .any ops Q u (L.setIfInBounds i true) (a.put (some d) v) w):wpAnyIn Fence.wide n P .any ops Q (u+1) L a w:=
 mc E D (by rw[if_pos I,y,Oper.uponIn_value,z];exact h)
theorem og{n:Nat}{P:Program}{ops:Array Oper}{Q:Exit->Act->World->Prop}{u:Nat}{L:Array Bool}{a:Act}{w:World}(i d:Nat){o:Oper}(D:Region.ready .any ops L=[i])(z:ops[i]?=some o)(y:o.dst=some d)(E:Region.wanted o (yielded ops a.tmps)=false)
  (h:wpAnyIn Fence.wide n P .any ops Q u (L.setIfInBounds i true) (a.put (some d) undef) w):wpAnyIn Fence.wide n P .any ops Q (u+1) L a w:=
 mc D z (by rw[E,y];exact h)
theorem oh{n:Nat}{P:Program}{ops:Array Oper}{Q:Exit->Act->World->Prop}{L:Array Bool}{a:Act}{w:World}(u:Region.ready .any ops L=[])(h:Q .normal a w):wpAnyIn Fence.wide n P .any ops Q 0 L a w:=⟨u,h⟩
theorem uR{n:Nat}{P:Program}{ops:Array Oper}{Q:Exit->Act->World->Prop}{u:Nat}{L:Array Bool}{a:Act}{w:World}(i d:Nat){o:Oper}{l:Nat}{D:FuncId}{tmps:Array Value}{assign body:Code}{R:Ending->World->Prop}(U:Region.ready .any ops L=[i])(S:ops[i]?=some o)(J:o.dst=some d)(W:Region.wanted o (yielded ops a.tmps)=true)
  (y:(execOp a.eval o).run P w= .ok (.round l D tmps assign body) w) (I:RoundIn Fence.wide (n-1) P l D tmps assign body w R) (h:∀e z,R e z->∃v,e= .returned v/\wpAnyIn Fence.wide n P .any ops Q u (L.setIfInBounds i true) (a.put (some d) v) z):wpAnyIn Fence.wide n P .any ops Q (u+1) L a w:=
 mc U S (by
  rw[if_pos W,y,Oper.uponIn_round];refine⟨fun q=>(by cases q),I.mono fun e z O=>?_⟩;obtain⟨v,rfl,E⟩:=h e z O;rw[J];exact E)
def lkV:List (Nat×Value)->Nat->Option Value
 |[],_=>none
 |(d,v)::r,t=>if d=t then some v else lkV r t
theorem bf:∀(u:List (Nat×Value))(a:Act)(t:Nat),(u.map (·.1)).Nodup->(∀p∈u,p.1<a.tmps.size)->(S5 a u).tmps[t]?.getD undef=(lkV u t).getD (a.tmps[t]?.getD undef)
 |[],a,t,_,_=>rfl
 |(d,v)::r,a,t,h,hl=>by
  rw[List.map_cons,List.nodup_cons]at h;have z:∀p∈r,p.1<(a.put (some d) v).tmps.size:=fun p D=>by
   show p.1<(a.tmps.setIfInBounds d v).size;rw[Array.size_setIfInBounds];exact hl p (by simp [D])
  have I:=bf r (a.put (some d) v) t h.2 z;rw[S5,I,lkV];have D:(a.put (some d) v).tmps[t]?=(a.tmps.setIfInBounds d v)[t]?:=rfl;rw[D,Array.getElem?_setIfInBounds];by_cases y:d=t
  .subst y;have J:lkV r d=none:=by
    have:∀r:List (Nat×Value),d∉r.map (·.1)->lkV r d=none:=by
     intro r;induction r with
     |nil=>intro _;rfl
     |cons x r I=>
      intro E;simp only[List.map_cons,List.mem_cons,not_or]at E;rw[lkV,if_neg (fun q=>E.1 q.symm)];exact I E.2
    exact this r h.1
   rw[J,if_pos rfl,if_pos rfl,if_pos (hl (d,v) sM)];rfl
  .rw[if_neg y,if_neg y]
def co(id:Nat):Code->List Oper
 | .region k ops _=>if k=id then ops.toList else []
 | .seq a b=>co id a++co id b
 | .cond _ a b=>co id a++co id b
 | .block _ a| .loop a| .scope a=>co id a
 |_=>[]
noncomputable def c84:Code:=Tryz.f84.body.getD .skip
set_option maxRecDepth 100000 in
set_option maxHeartbeats 2000000 in
theorem EU(n:Nat)(a0:Act)(hsz:a0.tmps.size=47)(w:World)(Q:Exit->Act->World->Prop)(hQ:∀c a(d:Nat) v w,Q (.panic c) (a.put (some d) v) w->Q (.panic c) a w) (yl:Nat) (p75 i75 p3 i3 rb ro b o len cap k q:Nat) (x y size:Int) (hx:0<=x/\x<=1000000) (hy:0<=y/\y<=1000000) (hk:k<len) (hq:q<len)
  (e0:a0.tmps[0]?.getD undef= .func (.yield yl) #[] #[]) (e1:a0.tmps[1]?.getD undef= .pointer (some ⟨p75,i75,none⟩)) (e2:a0.tmps[2]?.getD undef= .pointer (some ⟨p3,i3,none⟩)) (e5:a0.tmps[5]?.getD undef=iV k) (e6:a0.tmps[6]?.getD undef=iV q)
  (c75:w.cell? ⟨p75,i75,none⟩=some (.pointer (some ⟨rb,ro,none⟩))) (c3:w.cell? ⟨p3,i3,none⟩=some (.int .i64 size)) (c10:w.cell? ⟨rb,ro+10,none⟩=some (.slice (some ⟨b,o,none⟩) len cap)) (ca:w.cell? ⟨b,o+k,none⟩=some (.int .i64 x)) (cb:w.cell? ⟨b,o+q,none⟩=some (.int .i64 y))
  (hno:x+y+1≠size->∀a',a'.tmps.size=47->a'.defers=a0.defers->(∀t,(t<20\/45<=t)->a'.tmps.getD t undef=a0.tmps.getD t undef)->a'.tmps.getD 44 undef= .bool false->Q .normal a' w.drew)
  (hyes:x+y+1=size->YieldAt Fence.wide (n-1) prog yl #[iV k,iV q] w.drew fun e W'=>∃g:Bool,e= .returned (.bool g)/\∀a',a'.tmps.size=47->a'.defers=a0.defers->(∀t,(t<20\/45<=t)->a'.tmps.getD t undef=a0.tmps.getD t undef)->a'.tmps.getD 44 undef= .bool (!g)->Q .normal a' W')
  :(Code.region 7 (co 7 c84).toArray true).wpIn Fence.wide n prog Q a0 w:=by
 have hmix:prog.follows .mixedOrders=true:=kR;have v1:IntKind.i64.wrap (x+y)=x+y:=vV oM oM;have v2:IntKind.i64.wrap (x+y+1)=x+y+1:=vV oM oM;have v3:x+y+1=size->IntKind.i64.wrap size=size:=fun q=>by rw[q]at v2;exact v2
 have nk:¬len<=k:=oM;have nq:¬len<=q:=oM;by_cases hsum:x+y+1=size
 .refine lO hmix 19 6 kR kR [(20,.pointer (some ⟨rb,ro,none⟩)),(21,.pointer (some ⟨rb,ro,none⟩)),(22,.pointer (some ⟨rb,ro+10,none⟩)),(23,.slice (some ⟨b,o,none⟩) len cap),(24,iV k),(25,.pointer (some ⟨b,o+k,none⟩)),(26,iV x),(27,.pointer (some ⟨rb,ro,none⟩)),(28,.pointer (some ⟨rb,ro,none⟩)),(29,.pointer (some ⟨rb,ro+10,none⟩)),(30,.slice (some ⟨b,o,none⟩) len cap),(31,iV q),(32,.pointer (some ⟨b,o+q,none⟩)),(33,iV y),(34,iV (x+y)),(35,iV (x+y+1)),(36,iV size),(37,.bool true),(38,.bool true)] kR (by simp [hsz]) ?_ ?_
  .simp only[co,c84,Tryz.f84,Option.getD_some,if_true,Nat.reduceEqDiff,if_false,List.nil_append,List.append_nil,lX,List.take_succ_cons,List.take_zero];refine⟨?_,?_,?_,?_,?_,?_,?_,?_,?_,?_,?_,?_,?_,?_,?_,?_,?_,?_,?_,trivial⟩
   all_goals generalize hvs:([(20,_),_,_,_,_,_,_,_,_,_,_,_,_,_,_,_,_,_,_]:List (Nat×Value))=vs
   all_goals
    have hget:∀t,(S5 a0 vs).tmps[t]?.getD undef=(lkV vs t).getD (a0.tmps[t]?.getD undef):=fun t=>bf vs a0 t (by subst hvs;simp) (by subst hvs;simp [hsz]);generalize S5 a0 vs=af at hget ⊢;subst hvs;simp [go_sem,hget,lkV,e1,e2,e5,e6,c75,c3,c10,ca,cb,v1,v2,hsum,nk,nq,v3]
  .generalize hvs:([(20,_),_,_,_,_,_,_,_,_,_,_,_,_,_,_,_,_,_,_]:List (Nat×Value))=vs;have hget:∀t,(S5 a0 vs).tmps[t]?.getD undef=(lkV vs t).getD (a0.tmps[t]?.getD undef):=fun t=>bf vs a0 t (by subst hvs;simp) (by subst hvs;simp [hsz]);have hsf:=bJ vs a0;generalize S5 a0 vs=af at hget hsf ⊢;rw[hsz]at hsf;have h38:af.tmps[38]?=some (.bool true):=by
    have:=hget 38;rw[Array.getElem?_eq_getElem oM]at this ⊢;subst hvs
    simpa [lkV] using this
   have h38b:af.tmps[38]'oM= .bool true:=by rw[Array.getElem?_eq_getElem oM]at h38;exact Option.some.inj h38
   have hlow:∀t,t<20->af.tmps[t]?.getD undef=a0.tmps[t]?.getD undef:=fun t ht=>by
    have h2:=hget t;have h3:lkV vs t=none:=by
     subst hvs;simp only[lkV]
     repeat rw[if_neg oM]
    rw[h3]at h2;exact h2
   have g0:=(hlow 0 oM).trans e0;have g5:=(hlow 5 oM).trans e5;have g6:=(hlow 6 oM).trans e6;obtain⟨fn,tmps,assign,body,hyr,hR⟩:=hyes hsum;simp only[co,c84,Tryz.f84,Option.getD_some,if_true,Nat.reduceEqDiff,if_false,List.nil_append,List.append_nil];refine bn 19 39 (.func (.yield yl) #[] #[]) kR kR rfl rfl (fun _ _ _ h=>hQ _ _ _ _ _ h) (fun _=>rfl) (.inl ⟨by simp [Region.wanted,yielded,h38],fun w=>by simp [go_sem,g0]⟩) ?_;refine bn 20 40 (.int .i64 k) kR kR rfl rfl (fun _ _ _ h=>hQ _ _ _ _ _ h) (fun _=>rfl) (.inl ⟨by simp [Region.wanted,yielded,h38,Act.put],fun w=>by simp [go_sem,g5,Act.put,Array.getElem?_setIfInBounds]⟩) ?_;refine bn 21 41 (.int .i64 q) kR kR rfl rfl (fun _ _ _ h=>hQ _ _ _ _ _ h) (fun _=>rfl) (.inl ⟨by simp [Region.wanted,yielded,h38,Act.put],fun w=>by simp [go_sem,g6,Act.put,Array.getElem?_setIfInBounds]⟩) ?_;refine uR 22 42 kR rfl rfl (by simp [Region.wanted,yielded,h38,Act.put]) ?_ hR ?_
   .simp [go_sem,Act.put,hsf.1,hyr]
   .rintro e W' ⟨g,rfl,hg⟩;refine⟨_,rfl,?_⟩;refine me 23 43 (.bool (!g)) kR rfl rfl (by simp [Region.wanted,yielded,h38,Act.put]) ?_ ?_
    .simp [go_sem,Act.put,hsf.1]
    .refine me 24 44 (.bool (!g)) kR rfl rfl (by simp [Region.wanted]) ?_ ?_
     .simp [go_sem,Act.put,h38,h38b,hsf.1]
     .refine oh kR ?_;refine hg _ ?_ ?_ (fun t ht=>?_) ?_
      .simp [Act.put,hsf.1]
      .simp [Act.put,hsf.2]
      .have h2:=hget t;have h3:lkV vs t=none:=by
        subst hvs;simp only[lkV]
        repeat rw[if_neg oM]
       rw[h3]at h2;simp only[Act.put,Array.getD_eq_getD_getElem?,Array.getElem?_setIfInBounds];rw[if_neg (show¬44=t from oM),if_neg (show¬43=t from oM),if_neg (show¬42=t from oM),if_neg (show¬41=t from oM),if_neg (show¬40=t from oM),if_neg (show¬39=t from oM)];exact h2
      .simp [Act.put,hsf.1,Array.getD_eq_getD_getElem?]
 .refine lO hmix 19 6 kR kR [(20,.pointer (some ⟨rb,ro,none⟩)),(21,.pointer (some ⟨rb,ro,none⟩)),(22,.pointer (some ⟨rb,ro+10,none⟩)),(23,.slice (some ⟨b,o,none⟩) len cap),(24,iV k),(25,.pointer (some ⟨b,o+k,none⟩)),(26,iV x),(27,.pointer (some ⟨rb,ro,none⟩)),(28,.pointer (some ⟨rb,ro,none⟩)),(29,.pointer (some ⟨rb,ro+10,none⟩)),(30,.slice (some ⟨b,o,none⟩) len cap),(31,iV q),(32,.pointer (some ⟨b,o+q,none⟩)),(33,iV y),(34,iV (x+y)),(35,iV (x+y+1)),(36,iV size),(37,.bool false),(38,.bool false)] kR (by simp [hsz]) ?_ ?_
  .simp only[co,c84,Tryz.f84,Option.getD_some,if_true,Nat.reduceEqDiff,if_false,List.nil_append,List.append_nil,lX,List.take_succ_cons,List.take_zero];refine⟨?_,?_,?_,?_,?_,?_,?_,?_,?_,?_,?_,?_,?_,?_,?_,?_,?_,?_,?_,trivial⟩
   all_goals generalize hvs:([(20,_),_,_,_,_,_,_,_,_,_,_,_,_,_,_,_,_,_,_]:List (Nat×Value))=vs
   all_goals
    have hget:∀t,(S5 a0 vs).tmps[t]?.getD undef=(lkV vs t).getD (a0.tmps[t]?.getD undef):=fun t=>bf vs a0 t (by subst hvs;simp) (by subst hvs;simp [hsz]);generalize S5 a0 vs=af at hget ⊢;subst hvs;simp [go_sem,hget,lkV,e1,e2,e5,e6,c75,c3,c10,ca,cb,v1,v2,hsum,nk,nq]
  .generalize hvs:([(20,_),_,_,_,_,_,_,_,_,_,_,_,_,_,_,_,_,_,_]:List (Nat×Value))=vs;have hget:∀t,(S5 a0 vs).tmps[t]?.getD undef=(lkV vs t).getD (a0.tmps[t]?.getD undef):=fun t=>bf vs a0 t (by subst hvs;simp) (by subst hvs;simp [hsz]);have hsf:=bJ vs a0;generalize S5 a0 vs=af at hget hsf ⊢;rw[hsz]at hsf;have h38:af.tmps[38]?=some (.bool false):=by
    have:=hget 38;rw[Array.getElem?_eq_getElem oM]at this ⊢;subst hvs
    simpa [lkV] using this
   have h38b:af.tmps[38]'oM= .bool false:=by rw[Array.getElem?_eq_getElem oM]at h38;exact Option.some.inj h38
   simp only[co,c84,Tryz.f84,Option.getD_some,if_true,Nat.reduceEqDiff,if_false,List.nil_append,List.append_nil];refine bn 19 39 undef kR kR rfl rfl (fun _ _ _ h=>hQ _ _ _ _ _ h) (fun _=>rfl) (.inr ⟨by simp [Region.wanted,yielded,h38],rfl⟩) ?_;refine bn 20 40 undef kR kR rfl rfl (fun _ _ _ h=>hQ _ _ _ _ _ h) (fun _=>rfl) (.inr ⟨by simp [Region.wanted,yielded,h38,Act.put],rfl⟩) ?_;refine bn 21 41 undef kR kR rfl rfl (fun _ _ _ h=>hQ _ _ _ _ _ h) (fun _=>rfl) (.inr ⟨by simp [Region.wanted,yielded,h38,Act.put],rfl⟩) ?_;refine og 22 42 kR rfl rfl (by simp [Region.wanted,yielded,h38,Act.put]) ?_;refine og 23 43 kR rfl rfl (by simp [Region.wanted,yielded,h38,Act.put]) ?_;refine me 24 44 (.bool false) kR rfl rfl (by simp [Region.wanted]) ?_ ?_
   .simp [go_sem,Act.put,h38,h38b,hsf.1]
   .refine oh kR ?_;refine hno hsum _ ?_ ?_ (fun t ht=>?_) ?_
    .simp [Act.put,hsf.1]
    .simp [Act.put,hsf.2]
    .have h2:=hget t;have h3:lkV vs t=none:=by
      subst hvs;simp only[lkV]
      repeat rw[if_neg oM]
     rw[h3]at h2;simp only[Act.put,Array.getD_eq_getD_getElem?,Array.getElem?_setIfInBounds];rw[if_neg (show¬44=t from oM),if_neg (show¬43=t from oM),if_neg (show¬42=t from oM),if_neg (show¬41=t from oM),if_neg (show¬40=t from oM),if_neg (show¬39=t from oM)];exact h2
    .simp [Act.put,hsf.1,Array.getD_eq_getD_getElem?]
theorem BS(u:Nat->Int)(size:Int)(a k m:Nat)(h:k<=m):gX u size a k<+:gX u size a m:=by
 induction m with
 |zero=>
  have:k=0:=oM;rw[this];exact List.prefix_rfl
 |succ m z=>
  by_cases y:k=m+1
  .rw[y];exact List.prefix_rfl
  .rw[cM];exact(z oM).trans (List.prefix_append _ _)
theorem pP(u:Nat->Int)(size:Int)(m a k:Nat)(h:a<m)(z:k<=m):ak7 u size m a++gX u size a k<+:ak7 u size m m:=by
 have:∀d,a+1+d<=m->ak7 u size m (a+1)<+:ak7 u size m (a+1+d):=by
  intro d;induction d with
  |zero=>intro _;exact List.prefix_rfl
  |succ d D=>
   intro E;rw[show a+1+(d+1)=(a+1+d)+1 from oM,ir u size m (a+1+d)];exact(D oM).trans (List.prefix_append _ _)
 have y:=this (m-(a+1)) oM;rw[show a+1+(m-(a+1))=m from oM]at y;refine List.IsPrefix.trans ?_ y;rw[ir];exact(List.prefix_append_right_inj _).2 (BS u size a k m z)
theorem Rd.drew{y u I E J O m:Nat}{S:Nat->Int}{size:Int}{w:World}(h:Rd y u I E J O m S size w):Rd y u I E J O m S size w.drew:=by
 obtain⟨U,W,b,o,D,z,X,h4,h5⟩:=h;exact⟨U,W,b,o,D,z,X,h4,h5⟩
theorem ke(a0 a':Act)(b:Value)(h0:a0.tmps.size=47)(s1:a'.tmps.size=47)(s2:a'.defers=a0.defers)(s3:∀t,(t<20\/45<=t)->a'.tmps.getD t undef=a0.tmps.getD t undef) (s4:a'.tmps.getD 44 undef=b):
  ∃h u y z D E I J O S U W X a1 a2 a3 a4 a5 a6 a7 a8 a9 b0 b1:Value,a'=S5 a0 [(20,h),(21,u),(22,y),(23,z),(24,D),(25,E),(26,I),(27,J),(28,O),(29,S),(30,U),(31,W),(32,X),(33,a1),(34,a2),(35,a3),(36,a4),(37,a5),(38,a6),(39,a7),(40,a8),(41,a9),(42,b0),(43,b1),(44,b)]:=by
 refine⟨a'.tmps.getD 20 undef,a'.tmps.getD 21 undef,a'.tmps.getD 22 undef,a'.tmps.getD 23 undef,a'.tmps.getD 24 undef,a'.tmps.getD 25 undef,a'.tmps.getD 26 undef,a'.tmps.getD 27 undef,a'.tmps.getD 28 undef,a'.tmps.getD 29 undef,a'.tmps.getD 30 undef,a'.tmps.getD 31 undef,a'.tmps.getD 32 undef,a'.tmps.getD 33 undef,a'.tmps.getD 34 undef,a'.tmps.getD 35 undef,a'.tmps.getD 36 undef,a'.tmps.getD 37 undef,a'.tmps.getD 38 undef,a'.tmps.getD 39 undef,a'.tmps.getD 40 undef,a'.tmps.getD 41 undef,a'.tmps.getD 42 undef,a'.tmps.getD 43 undef,?_⟩;obtain⟨p1,p2⟩:=bJ [(20,a'.tmps.getD 20 undef),(21,a'.tmps.getD 21 undef),(22,a'.tmps.getD 22 undef),(23,a'.tmps.getD 23 undef),(24,a'.tmps.getD 24 undef),(25,a'.tmps.getD 25 undef),(26,a'.tmps.getD 26 undef),(27,a'.tmps.getD 27 undef),(28,a'.tmps.getD 28 undef),(29,a'.tmps.getD 29 undef),(30,a'.tmps.getD 30 undef),(31,a'.tmps.getD 31 undef),(32,a'.tmps.getD 32 undef),(33,a'.tmps.getD 33 undef),(34,a'.tmps.getD 34 undef),(35,a'.tmps.getD 35 undef),(36,a'.tmps.getD 36 undef),(37,a'.tmps.getD 37 undef),(38,a'.tmps.getD 38 undef),(39,a'.tmps.getD 39 undef),(40,a'.tmps.getD 40 undef),(41,a'.tmps.getD 41 undef),(42,a'.tmps.getD 42 undef),(43,a'.tmps.getD 43 undef),(44,b)] a0;refine uZ (by rw[p1,s1,h0]) (by rw[p2,s2]) fun t=>?_;have hg:=bf [(20,a'.tmps.getD 20 undef),(21,a'.tmps.getD 21 undef),(22,a'.tmps.getD 22 undef),(23,a'.tmps.getD 23 undef),(24,a'.tmps.getD 24 undef),(25,a'.tmps.getD 25 undef),(26,a'.tmps.getD 26 undef),(27,a'.tmps.getD 27 undef),(28,a'.tmps.getD 28 undef),(29,a'.tmps.getD 29 undef),(30,a'.tmps.getD 30 undef),(31,a'.tmps.getD 31 undef),(32,a'.tmps.getD 32 undef),(33,a'.tmps.getD 33 undef),(34,a'.tmps.getD 34 undef),(35,a'.tmps.getD 35 undef),(36,a'.tmps.getD 36 undef),(37,a'.tmps.getD 37 undef),(38,a'.tmps.getD 38 undef),(39,a'.tmps.getD 39 undef),(40,a'.tmps.getD 40 undef),(41,a'.tmps.getD 41 undef),(42,a'.tmps.getD 42 undef),(43,a'.tmps.getD 43 undef),(44,b)] a0 t sM (by simp [h0]);rw[Array.getD_eq_getD_getElem?,Array.getD_eq_getD_getElem?,hg,<-Array.getD_eq_getD_getElem?,<-Array.getD_eq_getD_getElem?];by_cases ht:t<20\/45<=t
 .rw[s3 t ht];have:lkV [(20,a'.tmps.getD 20 undef),(21,a'.tmps.getD 21 undef),(22,a'.tmps.getD 22 undef),(23,a'.tmps.getD 23 undef),(24,a'.tmps.getD 24 undef),(25,a'.tmps.getD 25 undef),(26,a'.tmps.getD 26 undef),(27,a'.tmps.getD 27 undef),(28,a'.tmps.getD 28 undef),(29,a'.tmps.getD 29 undef),(30,a'.tmps.getD 30 undef),(31,a'.tmps.getD 31 undef),(32,a'.tmps.getD 32 undef),(33,a'.tmps.getD 33 undef),(34,a'.tmps.getD 34 undef),(35,a'.tmps.getD 35 undef),(36,a'.tmps.getD 36 undef),(37,a'.tmps.getD 37 undef),(38,a'.tmps.getD 38 undef),(39,a'.tmps.getD 39 undef),(40,a'.tmps.getD 40 undef),(41,a'.tmps.getD 41 undef),(42,a'.tmps.getD 42 undef),(43,a'.tmps.getD 43 undef),(44,b)] t=none:=by
   simp only[lkV]
   repeat rw[if_neg oM]
  rw[this];rfl
 .have b2:20<=t:=oM;have b3:t<=44:=oM;have:t=20\/t=21\/t=22\/t=23\/t=24\/t=25\/t=26\/t=27\/t=28\/t=29\/t=30\/t=31\/t=32\/t=33\/t=34\/t=35\/t=36\/t=37\/t=38\/t=39\/t=40\/t=41\/t=42\/t=43\/t=44:=oM;rcases this with rfl|rfl|rfl|rfl|rfl|rfl|rfl|rfl|rfl|rfl|rfl|rfl|rfl|rfl|rfl|rfl|rfl|rfl|rfl|rfl|rfl|rfl|rfl|rfl|rfl<;>first|rfl|exact s4
set_option maxRecDepth 100000 in
set_option maxHeartbeats 4000000 in
theorem yf(n:Nat)(l:Nat)(p75 i75 p3 i3:Nat)(rb ro:Nat)(m:Nat)(ss:Nat->Int)(size:Int)(J Jx:List (Nat×Nat)->World->Prop)(hm:m<=1000)(hss:∀i,0<=ss i/\ss i<=1000000)
  (hJd:∀pre w,J pre w->J pre w.drew)
  (hY:∀pre(x:Nat×Nat) W,(pre++[x])<+:ak7 ss size m m->J pre W->YieldAt Fence.wide (n-1) prog l #[iV (x.1:Int),iV (x.2:Int)] W fun e W'=>
   (e= .returned (.bool true)/\J (pre++[x]) W'/\(Rd p75 i75 p3 i3 rb ro m ss size W->Rd p75 i75 p3 i3 rb ro m ss size W'))\/(e= .returned (.bool false)/\Jx (pre++[x]) W'))
  (W:World) (hR:Rd p75 i75 p3 i3 rb ro m ss size W) (sa:Option Addr) (sc:Nat) (hs:W.cell? ⟨rb,ro+9,none⟩=some (.slice sa m sc)) (h0:J [] W):
  CallsIn Fence.wide n prog 84 #[.func (.yield l) #[] #[],.pointer (some ⟨p75,i75,none⟩),.pointer (some ⟨p3,i3,none⟩)] W fun e W'=>(∃v,e= .returned v)/\(J (ak7 ss size m m) W'\/∃pre,pre<+:ak7 ss size m m/\Jx pre W'):=by
 have hB:=hR.c75;refine callsIn_of_wp AO rfl trivial ?_ rfl;simp only[EE,List.size_toArray,List.length_cons,List.length_nil,Nat.reduceAdd,Nat.reduceSub,Array.replicate_succ,Array.replicate_zero,List.push_toArray,List.append_toArray,List.nil_append,List.cons_append]
 gi_wp2
 gi_loopw [13] (fun i wr=>∃k:Nat,k<=m/\i=iV k/\J (ak7 ss size m k) wr/\Rd p75 i75 p3 i3 rb ro m ss size wr)
  (fun i _=>m-(intOf i).toNat)
 case atStart=>exact⟨0,Nat.zero_le _,rfl,h0,hR⟩
 case round=>
  obtain⟨k,hk,rfl,hJ1,hR1⟩:=hrel;by_cases hlt:k<m
  .gi_wp2
   gi_loopw [17] (fun i wr=>∃q:Nat,q<=m/\i=iV q/\J (ak7 ss size m k++gX ss size k q) wr/\Rd p75 i75 p3 i3 rb ro m ss size wr)
    (fun i _=>m-(intOf i).toNat)
   case atStart=>exact⟨0,Nat.zero_le _,rfl,by simpa [gX] using hJ1,hR1⟩
   case round=>
    obtain⟨q,hq,rfl,hJ2,hR2⟩:=hrel;by_cases hlt2:q<m
    .have hR3:=hR2.drew;obtain⟨c75,c3,b,o,len,cap,hml,c10,cz⟩:=hR2;have ca:=cz k hlt;have cb:=cz q hlt2;have h1:=hss k;have h2:=hss q
     gi_wp2
     refine EU n _ rfl _ _ (fun _ _ _ _ _ h=>h) l p75 i75 p3 i3 rb ro b o len cap k q (ss k) (ss q) size h1 h2 oM oM rfl rfl rfl rfl rfl c75 c3 c10 ca cb ?_ ?_
     .intro hne a' s1 s2 s3 s4;obtain⟨y20,y21,y22,y23,y24,y25,y26,y27,y28,y29,y30,y31,y32,y33,y34,y35,y36,y37,y38,y39,y40,y41,y42,y43,rfl⟩:=ke _ a' _ rfl s1 s2 s3 s4;simp only[S5,Act.put,List.setIfInBounds_toArray,List.set_cons_succ,List.set_cons_zero]
      gi_wp2
      refine⟨⟨q+1,oM,by simp,?_,hR3⟩,by simp [intOf];omega⟩;rw[cM,if_neg hne,List.append_nil];exact hJd _ _ hJ2
     .intro hsum;obtain⟨fn,tmps,assign,body,hy,hRr⟩:=hY _ (k,q) wr.drew (by
       have:=pP ss size m k (q+1) hlt hlt2
       rwa [cM,if_pos hsum,<-List.append_assoc]at this) (hJd _ _ hJ2)
      refine⟨fn,tmps,assign,body,hy,hRr.mono ?_⟩;rintro e W3 (⟨rfl,hJ3,hK3⟩|⟨rfl,hJx3⟩)
      .have hR4:=hK3 hR3;refine⟨true,rfl,fun a' s1 s2 s3 s4=>?_⟩;obtain⟨y20,y21,y22,y23,y24,y25,y26,y27,y28,y29,y30,y31,y32,y33,y34,y35,y36,y37,y38,y39,y40,y41,y42,y43,rfl⟩:=ke _ a' _ rfl s1 s2 s3 s4;simp only[S5,Act.put,List.setIfInBounds_toArray,List.set_cons_succ,List.set_cons_zero,Bool.not_true]
       gi_wp2
       refine⟨⟨q+1,oM,by simp,?_,hR4⟩,by simp [intOf];omega⟩;rw[cM,if_pos hsum,<-List.append_assoc];exact hJ3
      .refine⟨false,rfl,fun a' s1 s2 s3 s4=>?_⟩;obtain⟨y20,y21,y22,y23,y24,y25,y26,y27,y28,y29,y30,y31,y32,y33,y34,y35,y36,y37,y38,y39,y40,y41,y42,y43,rfl⟩:=ke _ a' _ rfl s1 s2 s3 s4;simp only[S5,Act.put,List.setIfInBounds_toArray,List.set_cons_succ,List.set_cons_zero,Bool.not_false]
       gi_wp2
       refine bodyPost_ret (results_none rfl _ _ _) rfl ?_;refine⟨⟨_,rfl⟩,.inr ⟨_,?_,hJx3⟩⟩;have:=pP ss size m k (q+1) hlt hlt2
       rwa [cM,if_pos hsum,<-List.append_assoc]at this
    .have hqm:q=m:=oM
     gi_wp2
     refine⟨⟨k+1,oM,by simp,?_,hR2⟩,by simp [intOf];omega⟩;rw[ir,<-hqm];rw[<-hqm]at hJ2;exact hJ2
  .have hkm:k=m:=oM
   gi_wp2
   go_end0
   exact⟨⟨_,rfl⟩,.inl (by rw[hkm]at hJ1;exact hJ1)⟩
end Go.Proofs.YtofbhlhamfkljaaGreatDoor
namespace Go.Proofs.YtofbhlhamfkljaaGreatDoor.Ve
open Go Go.RowKit
open Go.Proofs.Tryz (prog)
def ldc(H:d9)(v:Value)(i:Nat):Option Value:=
 match v with
 | .pointer (some ⟨b,o,none⟩)=>match H.get b with
  |some (.cells c _ _)=>c[o+i]?
  |_=>none
 |_=>none
theorem vE{H:d9}{v:Value}{i:Nat}{x:Value}(h:ldc H v i=some x):∃b o c own sz,v= .pointer (some ⟨b,o,none⟩)/\H.get b=some (.cells c own sz)/\c[o+i]?=some x:=by
 unfold ldc at h;split at h
 .rename_i b o;split at h
  .rename_i c own sz u;exact⟨b,o,c,own,sz,rfl,u,h⟩
  .cases h
 .cases h
section
variable{base:Bs}{w0:World}{φ:List Loc}{w:World}
theorem X1{H:d9}(z:WR base w0 φ H.bs w){v v':Value}(J:VR φ v v'){i:Nat}{x:Value}(h:ldc H v i=some x):∃p q y,v'= .pointer (some ⟨p,q,none⟩)/\w.cell? ⟨p,q+i,none⟩=some y/\VR φ x y:=by
 obtain⟨b,o,c,own,sz,rfl,E,O⟩:=vE h;cases J with
 |ptr I=>
  rename_i l;obtain⟨_,_,D,_⟩:=z.blk b _ l E I;obtain⟨y,S,u⟩:=D _ _ O;exact⟨_,_,y,rfl,by rw[Nat.add_assoc];exact S,u⟩
theorem NU{z:List Loc}(J:Ext φ z){H:d9}{v v' u:Value}{i:Nat}{x:Value}(h:ldc H v i=some x)(D:VR φ v v')(E:VR z v u):u=v':=by
 obtain⟨b,o,c,own,sz,rfl,O,_⟩:=vE h;cases D with
 |ptr I=>
  cases E with
  |ptr y=>
   have:=J _ _ I;rw[y]at this;cases this;rfl
end
def iL:Option Value->Int
 |some (.int .i64 n)=>n
 |_=>0
def lnA:Option Value->Nat
 |some (.slice _ n _)=>n
 |_=>0
def gj(n:Int):Int:=if 0<=n/\n<=1000000 then n else 0
theorem CW(n:Int):0<=gj n/\gj n<=1000000:=by unfold gj;split<;>omega
def atA(H:d9)(s:Option Value)(i:Nat):Option Value:=
 match s with
 |some (.slice (some a) _ _)=>ldc H (.pointer (some a)) i
 |_=>none
def okP(v75 v3 q:Value)(m:Nat)(ss:Nat->Int)(size:Int)(H:d9):Prop:=
 ldc H v75 0=some q/\ldc H v3 0=some (.int .i64 size)/\∃a len cap,ldc H q 10=some (.slice (some a) len cap)/\m<=len/\∀i,i<m->ldc H (.pointer (some a)) i=some (.int .i64 (ss i))
open Classical in
noncomputable def pg(e:Env)(H:d9):Option (List (Nat×Nat)×(d9->Prop)):=
 match e.get 11 with
 | .func (.func 84) fs cs=>
  let v75:=cs.getD 0 undef
  let v3:=cs.getD 1 undef
  let q:=(ldc H v75 0).getD undef
  let m:=lnA (ldc H q 9)
  let ss:=fun i=>gj (iL (atA H (ldc H q 10) i))
  let size:=iL (ldc H v3 0)
  if fs.size=0/\cs.size=2/\1<=m/\m<=1000/\(∃a c,ldc H q 9=some (.slice a m c))/\okP v75 v3 q m ss size H then some (ak7 ss size m m,okP v75 v3 q m ss size) else none
 |_=>none
theorem Ol:bP prog 84:=⟨Tryz.f84,AO,kR,kR⟩
theorem Nn:(Tryz.f34.name== "runtime.NumGoroutine")=false:=kR
theorem nX{φ:List Loc}{a:Option Addr}{m c:Nat}{v:Value}(y:1<=m)(h:VR φ (.slice a m c) v):∃a' u,v= .slice a' m u:=by
 cases h with
 |nilslice=>omega
 |slice0=>omega
 |exact=>exact⟨_,_,rfl⟩
 |slice=>exact⟨_,_,rfl⟩
theorem Cf{φ:List Loc}{a:Addr}{m c:Nat}{v:Value}(z:1<=m)(h:VR φ (.slice (some a) m c) v):∃a' y,v= .slice (some a') m y/\VR φ (.pointer (some a)) (.pointer (some a')):=by
 cases h with
 |slice0=>omega
 |exact u=>exact⟨_,_,rfl,.ptr u⟩
 |slice u _ _=>exact⟨_,_,rfl,.ptr u⟩
theorem nJ{base:Bs}{w0:World}{φ φ':List Loc}{w:World}{H H':d9}{J v3 q u I q':Value}{m:Nat}{ss:Nat->Int}{size:Int}(S:Ext φ φ')(hm:1<=m)(O:WR base w0 φ' H'.bs w)(h:okP J v3 q m ss size H')(h1:VR φ J u)(h2:VR φ v3 I)(X:VR φ q q'){x:Value}(hq:ldc H q 9=some x){D z p3 i3 rb ro:Nat}
  (e1:u= .pointer (some ⟨D,z,none⟩)) (e2:I= .pointer (some ⟨p3,i3,none⟩)) (e3:q'= .pointer (some ⟨rb,ro,none⟩)):Rd D z p3 i3 rb ro m ss size w:=by
 subst e1 e2 e3;obtain⟨k1,k2,a,W,a1,k3,k4,k5⟩:=h;obtain⟨p,i,y,E,r2,r3⟩:=X1 O (h1.mono S) k1;cases E;have:=NU S hq X r3;subst this;obtain⟨p,i,y,E,r4,r5⟩:=X1 O (h2.mono S) k2;cases E;have:=r5.eq_na (by rfl);subst this;obtain⟨p,i,y,E,r6,r7⟩:=X1 O (X.mono S) k3;cases E;obtain⟨⟨ab,ao,ap⟩,c',rfl,r8⟩:=Cf oM r7;have U:ap=none:=by cases r8;rfl
 subst U;refine⟨r2,r4,ab,ao,W,c',k4,r6,fun i hi=>?_⟩;obtain⟨p,j,y,t1,t2,t3⟩:=X1 O r8 (k5 i hi);cases t1;have:=t3.eq_na (by rfl);subst this;exact t2
theorem Xv{base:Bs}{w0:World}{φ:List Loc}{w:World}{a:Act}{e:Env}{H:d9}{L:List (Nat×Nat)}{ok:d9->Prop}(h:pg e H=some (L,ok))(hE:ER φ Tryz.f34.ntmps e a)(hW:WR base w0 φ H.bs w):
  ∃lb Rd,a.eval (.tmp 11)= .func (.func 84) #[] lb/\(∀φ' H' W',Ext φ φ'->WR base w0 φ' H'.bs W'->ok H'->Rd W')/\∀X,WR base w0 φ H.bs X->sr prog 84 lb Rd L X:=by
 have hv:=hE.op (x:= .tmp 11) rfl;have h0:opv e (.tmp 11)=e.get 11:=rfl;rw[h0]at hv;unfold pg at h;split at h
 rotate_left
 .cases h
 rename_i fs cs a4;rw[a4]at hv;simp only at h;split at h
 rotate_left
 .cases h
 rename_i hc;cases h;obtain⟨c1,c2,c3,c4,⟨sa,sc,c5⟩,c6⟩:=hc;generalize hz:a.eval (.tmp 11)=z at hv;cases hv with
 |func g h1 h2 h3 h4=>
  rename_i D cs';have a5:D= #[]:=by
   apply Array.eq_empty_of_size_eq_zero;have:fs.toList.length=fs.size:=rfl;have:D.toList.length=D.size:=rfl;omega
  subst a5;have g0:cs.toList[0]?=some (cs.getD 0 undef):=by
   have:0<cs.size:=oM;simp [Array.getD_eq_getD_getElem?,this]
  have g1:cs.toList[1]?=some (cs.getD 1 undef):=by
   have:1<cs.size:=oM;simp [Array.getD_eq_getD_getElem?,this]
  obtain⟨u,m0,y0⟩:=VRs.get ⟨h3,h4⟩ g0;obtain⟨U,m1,y1⟩:=VRs.get ⟨h3,h4⟩ g1;have a3:cs'= #[u,U]:=by
   apply Array.toList_inj.1;have hl:cs'.toList.length=2:=by rw[<-h3];exact c2
   match hq:cs'.toList,hl with
   |[x,y],_=>
    rw[hq]at m0 m1;simp only[List.getElem?_cons_zero,List.getElem?_cons_succ,Option.some.injEq]at m0 m1;rw[m0,m1]
  subst a3;obtain⟨k1,k2,k3⟩:=c6;obtain⟨O,I,q',e1,r2,r3⟩:=X1 hW y0 k1;obtain⟨p3,i3,_,e2,_,_⟩:=X1 hW y1 k2;obtain⟨rb,ro,s9,e3,r9,a8⟩:=X1 hW r3 c5;obtain⟨b5,b6,rfl⟩:=nX c3 a8;refine⟨#[u,U],Rd O I p3 i3 rb ro _ _ _,rfl,fun φ' H' W' hx a2 a6=>nJ hx c3 a2 a6 y0 y1 r3 c5 e1 e2 e3,fun X E=>?_⟩;intro l J Jx a1 hY hJ;have hR:=nJ (Ext.refl φ) c3 E ⟨k1,k2,k3⟩ y0 y1 r3 c5 e1 e2 e3;obtain⟨b2,b3,b4,f3,a9,S⟩:=X1 E r3 c5;rw[e3]at f3;cases f3;obtain⟨b0,b1,rfl⟩:=nX c3 S;rw[e1,e2];exact yf 2 l O I p3 i3 rb ro _ _ _ J Jx c4 (fun i=>CW _) a1 (fun a7 x W hp hj=>hY a7 x W hp hj) X hR b0 b1 a9 hJ
noncomputable def AR:LV->d9->Option (Value×Option d9):=jV prog O8 vw vx kx ky nh 12 13 59 [.cell 4 4] pg
noncomputable def fK:Lib:=fun f=>if f=34 then some AR else none
theorem vF:mO prog O8:=fun g f h=>by cases h
theorem GH:prog.follows .mixedOrders=true:=kR
theorem En:mO prog fK:=by
 intro g f h;unfold fK at h;split at h
 rotate_left
 .cases h
 rename_i z;cases h;subst z;have:=BN (f:=34) GH vF Mz GY Nn ag0 ag1 Xw Xx ag2 ah2 Ol (it:=pg) (g:= .tmp 11) fun h u y=>Xv h u y;rw[ah1,ah6]at this;exact this
theorem fx{f:FuncId}{args:LV}{H:d9}{r:Value×Option d9}(h:CL prog O8 f args H=some r):CL prog fK f args H=some r:=by
 refine Cw (fun f=>?_) _ _ _ _ h;unfold fK;by_cases u:f=34
 .subst u;exact .inr ⟨rfl,Xp⟩
 .rw[if_neg u];exact .inl rfl
theorem Ya(args:LV)(H:d9):CL prog fK 34 args H=AR args H:=GO (by unfold fK;rw[if_pos rfl]) args H
end Go.Proofs.YtofbhlhamfkljaaGreatDoor.Ve
