/- A part of the claim: the evaluator and the contracts. Conditions: none here. -/
import Derived.Test.YtofbhlhamfkljaaGreatDoorPd
import Derived.Test.YtofbhlhamfkljaaGreatDoorProg
import Derived.KernelRfl
import Derived.OrdersIn
import Derived.CallsIn
import Derived.RegionIn
import Derived.RangeFuncNested
import Derived.RangeFuncBound
import Derived.RangeFuncCalls
import Derived.RangeFuncLeaves
import Derived.Shelf.Abstract
import Derived.Shelf.RegionOpen
import Derived.WalkKit
import Derived.OwnWalkIn
import Derived.TacticsInMore
import Derived.LoopNIn
import Derived.LoopIn
set_option linter.unusedVariables false
set_option linter.unusedSimpArgs false
set_option linter.defProp false
set_option maxHeartbeats 0
set_option maxRecDepth 1000000
namespace Go.Proofs.YtofbhlhamfkljaaGreatDoor.Ve
open Go Go.RowKit
open Go.Proofs.Tryz (prog)
def Sm(s:SpD)(m:Nat):Prop:=s.names.length<=m/\s.attrs.length<=m/\(∀l∈s.vals,l.length<=m)/\s.texts.length<=m
theorem Ae(l:List (ByteArray×ByteArray))(x:ByteArray×ByteArray):(Z2 l x).length<=l.length+1:=by unfold Z2;split<;>simp
theorem pS(l:List ByteArray)(x:ByteArray):(cU l x).length<=l.length+1:=by unfold cU;split<;>simp
theorem Dl{s:SpD}{m:Nat}(h:Sm s m)(n:ByteArray×ByteArray):Sm (I0 s n) (m+1):=by
 obtain⟨D,E,z,J⟩:=h;unfold I0;split
 .exact⟨oM,oM,fun l u=>by have:=z l u;omega,oM⟩
 .refine⟨by show s.names.length<=_;omega,by simp;omega,fun l u=>?_,by show s.texts.length<=_;omega⟩;rcases List.mem_append.1 u with u|u
  .have:=z l u;omega
  .rw[List.mem_singleton.1 u];simp
theorem pX{s:SpD}{m:Nat}(h:Sm s m)(n:ByteArray×ByteArray):(∀l∈(I0 s n).vals,l.length<=m)/\(I0 s n).names.length<=m/\(I0 s n).texts.length<=m/\(I0 s n).attrs.length<=m+1:=by
 obtain⟨z,J,D,E⟩:=h;unfold I0;split
 .exact⟨D,z,E,oM⟩
 .refine⟨fun l u=>?_,z,E,by simp;omega⟩;rcases List.mem_append.1 u with u|u
  .exact D l u
  .rw[List.mem_singleton.1 u];simp
theorem vE{s:SpD}{m:Nat}(h:Sm s m)(q:Q):Sm (L7 s q) (m+1):=by
 have D:=h;obtain⟨U,W,J,X⟩:=h;have z:Sm s (m+1):=⟨oM,oM,fun l u=>by have:=J l u;omega,oM⟩
 unfold L7;split
 .exact⟨by have:=Ae s.names (qNm q);show(Z2 s.names (qNm q)).length<=_;omega,z.2⟩
 split
 .exact Dl D _
 split
 .obtain⟨E,k1,k4,S⟩:=pX D (qNm q);refine⟨by show(I0 s (qNm q)).names.length<=_;omega,S,fun l u=>?_,by show(I0 s (qNm q)).texts.length<=_;omega⟩;rcases List.mem_or_eq_of_mem_set u with u|u
  .have:=E l u;omega
  .rw[u];have:=pS ((I0 s (qNm q)).vals.getD (ixN (I0 s (qNm q)).attrs (qNm q)) []) q.vl;have:((I0 s (qNm q)).vals.getD (ixN (I0 s (qNm q)).attrs (qNm q)) []).length<=m:=by
    rw[List.getD_eq_getElem?_getD];cases O:(I0 s (qNm q)).vals[ixN (I0 s (qNm q)).attrs (qNm q)]? with
    |none=>simp
    |some l=>exact E l (mG O)
   omega
 split
 .exact⟨z.1,z.2.1,z.2.2.1,by have:=pS s.texts q.vl;show(cU s.texts q.vl).length<=_;omega⟩
 .exact z
theorem dk(l:List Q):∀{s:SpD}{m:Nat},Sm s m->Sm (l.foldl L7 s) (m+l.length):=by
 induction l with
 |nil=>intro s m h;exact h
 |cons x l u=>intro s m h;rw[List.foldl_cons,List.length_cons,show m+(l.length+1)=m+1+l.length from oM];exact u (vE h x)
theorem Aq(s:SpD)(n:ByteArray×ByteArray):n∈(I0 s n).attrs:=by
 unfold I0;split
 .rename_i h;exact P9.1 h
 .exact List.mem_append.2 (.inr (List.mem_singleton.2 rfl))
theorem xm(H1:N7)(S p3:Nat)(O:Nat->Prop)(s:SpD)(w1 w2 w3 w4:Value)(us:LV)(q:Q)(va wa:Option Addr)(ca c7:Nat)(hR:cd H1 S O s w1 w2 w3 w4 us)(hs:Sm s 100000)(hp:p3≠S)(d5:¬O p3)(a2:LV)(a6:a2=[iV q.op,.string q.sp,.string q.lc,.string q.vl,.slice va q.a.length ca,.slice wa q.b.length c7])(X:H1.get p3=cE a2 1)
  (e:Env) (f0:e.get 0=pT S) (f3:e.get 3=pT p3) (a1:e.get 10=iV q.op):
  w7 (LE prog t6 wU e H1) (fun o e H2=>o= .normal/\e.get 0=pT S/\e.get 3=pT p3/\fx S O s H1 H2 (L7 s q)):=by
 unfold wU;obtain⟨s1,s2,s3,s4⟩:=hs;have e5:=u7 hR.g;have d4:=u7 X;have gg:=hR.g;have a8:ldC (some true) (some 2) 1 a2=some (.agg (nmE (qNm q)).toArray):=by rw[a6];rfl
 have r3:a2[3]?=some (.string q.vl):=by rw[a6];rfl
 rcases b4:decide (q.op=4)with _|_;rcases b5:decide (q.op=5)with _|_;rcases b6:decide (q.op=6)with _|_;rcases b7:decide (q.op=7)with _|_
 .have z:L7 s q=s:=by
   unfold L7;rw[if_neg (dF b4),if_neg (dF b5),if_neg (dF b6),if_neg (dF b7)]
  refine J7 f0 f3 a1 b4 b5 b6 b7 ?_;rw[z];exact⟨O,w1,w2,w3,w4,us,hR,lu.refl _ _ _ _⟩
 .have z:L7 s q={s with texts:=cU s.texts q.vl}:=by
   unfold L7;rw[if_neg (dF b4),if_neg (dF b5),if_neg (dF b6),if_pos (dT b7)]
  obtain⟨v',h',H2,E,W,hO,hG,hl⟩:=CV H1 (S+1) w4 s.texts q.vl oM hR.t oM;have n2:=hG.next;have g2:H2.get S=cE [w1,w2,w3,w4] 1:=(hG.but S oM (fun q=>by have:=hR.inl (w:=w4) sM q;omega)).trans gg;obtain⟨a',c',e'⟩:=hO.slice;have cu:v'.cells.toList=[v']:=by rw[e'];rfl
  have ou:Value.oneCell' v'=true:=by rw[e'];rfl
  refine J15 f0 f3 a1 b4 b5 b6 b7 gg X r3 E W g2 cu ou ?_;rw[z];exact Bo hR hO hG hl
 .have z:L7 s q={I0 s (qNm q)with vals:=(I0 s (qNm q)).vals.set (ixN (I0 s (qNm q)).attrs (qNm q)) (cU ((I0 s (qNm q)).vals.getD (ixN (I0 s (qNm q)).attrs (qNm q)) []) q.vl)}:=by
   unfold L7;rw[if_neg (dF b4),if_neg (dF b5),if_pos (dT b6)]
  obtain⟨_,h',H2,E,W,rfl,O2,x1,x2,x3,x4,ys,D,a4⟩:=zh H1 S O s w1 w2 w3 w4 us (qNm q) hR oM;have b9:=Aq s (qNm q);obtain⟨c6,_⟩:=pX (m:=100000) ⟨s1,s2,s3,s4⟩ (qNm q);obtain⟨sA,d8⟩:=eY (I0 s (qNm q));rw[<-d8]at E D a4 z b9 c6;obtain⟨U,c0⟩:=eY (ixN sA.attrs (qNm q));have a5:U<sA.vals.length:=by rw[c0,<-D.al];exact(xF _ _ b9).2.1
  rw[<-c0]at E z;have e6:=a4.stay.next;have b0:=D.g;have c9:H2.get p3=cE a2 1:=(a4.but p3 d4 hp d5).trans X;have c4:sA.vals[U]?=some (sA.vals.getD U []):=by rw[List.getD_eq_getElem?_getD,List.getElem?_eq_getElem a5];rfl
  have e1:=c6 _ (mG c4);obtain⟨u,hu⟩:∃u,ys[U]?=some u:=⟨_,List.getElem?_eq_getElem (by rw[D.len];exact a5)⟩
  have d1:=D.u U u _ hu c4;obtain⟨v',e2,H3,b2,b8,b1,a3,d2⟩:=CV H2 (S+1) u (sA.vals.getD U []) q.vl oM d1 oM;have hv:=D.v;obtain⟨J,d0,d6⟩:=hv;have e3:=JC d6;subst e3;have d3:=D.len;rcases d0 with⟨_,q0,_⟩|⟨b3,c3,rfl,a7,e4,_⟩
  .omega
  have h3:l7 (sL b3 J.length c3) b3:=⟨_,_,rfl⟩
  have e7:=a3.next;have g3:H3.get S=cE [x1,x2,sL b3 J.length c3,x4] 1:=(a3.but S oM (fun q=>by have:=D.inl (w:=u) (by simp [mG hu]) q;omega)).trans b0;have a9:H3.get b3=cE J 1:=(a3.but b3 (u7 a7) (fun q=>D.ap (U+4) 2 u _ hu rfl oM b3 q h3)).trans a7;obtain⟨a',c',e'⟩:=b1.slice;have cu:v'.cells.toList=[v']:=by rw[e'];rfl
  have ou:Value.oneCell' v'=true:=by rw[e'];rfl
  have nt:(U:Int).toNat=U:=tN U;have c5:U<J.length:=oM;have i0:(0:Int)<=U:=oM;have i1:(U:Int)<J.length:=oM;have c8:U+1<=J.length:=c5;have d9:splice J U [v']=J.set U v':=rfl;refine J25 f0 f3 a1 b4 b5 b6 b0 c9 a8 r3 X E W a7 nt hu b2 b8 g3 a9 cu ou c8 @Nat.mul_one d9 ?_;rw[z];obtain⟨O3,y1,y2,y3,y4,zs,R3,T3⟩:=Ht D hu b1 a3 d2;exact⟨O3,y1,y2,y3,y4,zs,R3,a4.trans (i6.refl _ _) lR oM T3⟩
 .have z:L7 s q=I0 s (qNm q):=by
   unfold L7;rw[if_neg (dF b4),if_pos (dT b5)]
  obtain⟨_,h',H2,E,W,rfl,hQ⟩:=zh H1 S O s w1 w2 w3 w4 us (qNm q) hR oM;refine J9 f0 f3 a1 b4 b5 X a8 E W ?_;rw[z];exact hQ
 .have z:L7 s q={s with names:=Z2 s.names (qNm q)}:=by
   unfold L7;rw[if_pos (dT b4)]
  obtain⟨v',h',H2,E,W,hO,hG,hl⟩:=JQ H1 (S+1) w1 s.names (qNm q) oM hR.n oM;have n2:=hG.next;have g2:H2.get S=cE [w1,w2,w3,w4] 1:=(hG.but S oM (fun q=>by have:=hR.inl (w:=w1) sM q;omega)).trans gg;obtain⟨a',c',e'⟩:=hO.slice;have cu:v'.cells.toList=[v']:=by rw[e'];rfl
  have ou:Value.oneCell' v'=true:=by rw[e'];rfl
  refine J12 f0 f3 a1 b4 gg X a8 E W g2 cu ou ?_;rw[z];exact Bn hR hO hG hl
def fj(fn:Nat)(f:Bool)(k:Nat):Prop:=∀(H:N7)(lo gb:Nat)(O:Nat->Prop)(s:SpD)(w1 w2 w3 w4:Value)(us cs:LV)(q:Q)(m:Nat),lo<=gb->cd H gb O s w1 w2 w3 w4 us->QR H lo k f cs q->Sm s m->m+nQ q<=100000->
 Ret (CL prog t6 fn [pT gb,.agg cs.toArray] H) H fun v H1=>v=undef/\fx gb O s H H1 ((fsQ f q).foldl L7 s)
theorem fU(f:Bool)(l:List Q)(i:Nat)(x:Q)(h:l.drop i=x::l.drop (i+1)):fsL f (l.drop i)=fsQ f x++fsL f (l.drop (i+1)):=by rw[h,fsL]
theorem Lr(k:Nat)(ih:fj 79 false k)(H0:N7)(lo u:Nat)(b2:lo<=u)(b4:u<H0.next)(O0:Nat->Prop)(s0:SpD)(va:Option Addr)(ca:Nat)(l:List Q)(hv:QsR H0 lo k false (.slice va l.length ca) l)(hn:l.length<=1048576)(p3:Value)(U:SpD):
  ∀kk e H2,(∃(i:Nat)(s:SpD)(m:Nat),kk=l.length-i/\i<=l.length/\e.get 0=pT u/\e.get 3=p3/\e.get 9= .slice va l.length ca/\e.get 10=iV l.length/\e.get 11=iV i/\fx u O0 s0 H0 H2 s/\Sm s m/\m+nL (l.drop i)<=100000/\(fsL false (l.drop i)).foldl L7 s=U)->
  w7 (LE prog t6 (.loop Od) e H2) (fun o e H2=>o= .exit 0/\e.get 0=pT u/\e.get 3=p3/\fx u O0 s0 H0 H2 U):=by
 refine i8 _ _ ?_;rintro kk e H2 ⟨i,s,m,b6,hi,f0,f3,fL,fM,fJ,hQ,J,z,fu⟩;rcases b:decide ((i:Int)<l.length)with _|_
 .have a6:=dF b;have:l.drop i=[]:=dN oM;rw[this,fsL,List.foldl_nil]at fu;refine J3 fM fJ b ?_;exact i9 ⟨rfl,f0,f3,by rw[<-fu];exact hQ⟩
 have a6:=dT b;obtain⟨O,w1,w2,w3,w4,us,hR,hT⟩:=hQ;have hS:=hT.stay;have b8:=hS.next;have a9:=u7 hR.g;obtain⟨x,nb,o,cs,own,el,hx,hd,rfl,b7,hg,b1,D,hr⟩:=hv.row (i:=i) oM;have b9:=mG hx;have nt:(i:Int).toNat=i:=tN i;simp only[qSz,if_true,bF]at D hg b1;rw[fU _ _ _ _ hd,List.foldl_append]at fu;have a8:m+(nQ x+nL (l.drop (i+1)))<=100000:=by rw[hd,nL]at z;exact z
 have a1:el.all oC=true:=F7 hr;have X:=hr.len;simp only[qSz,if_true,bF]at X;have S:=N5 hr;rw[X]at S;have gx:=(hS.get nb oM).trans hg;obtain⟨W,E,n3,g3,s3⟩:=pushP H2 (bC [iV 0,nS,nS] 1) (bC el 1);have l3:W.low<=H2.low:=by rw[E,A4,l9];omega
 have b3:splice [iV 0,nS,nS] 0 el=el:=x9 _ _ (by rw[X];rfl);have a2:∀j,j<lo->W.get j=H0.get j:=fun j hj=>by rw[s3.get j oM,hS.get j oM]
 have a3:cd W u O s w1 w2 w3 w4 us:=hR.keep (fun j hj=>s3.get j (by rcases hj with rfl|hj;exact a9;exact(hR.lt j hj).2)) (fun _ h=>h) (fun b hb=>by have:=hR.lt b hb;omega);obtain⟨v4,h4,H4,a7,b0,rfl,O4,x1,x2,x3,x4,ys,a4,a5⟩:=ih W lo u O s w1 w2 w3 w4 us el x m b2 a3 (hr.mono a2 lR) J oM;refine J17 f0 fL fM fJ b gx nt D a1 X b3 E.symm g3 S a7 b0 @wrap_small ?_;have b5:=jN false x;exact i4 (kk-1) oM ⟨i+1,_,m+(fsQ false x).length,oM,oM,f0,f3,fL,fM,rfl,⟨O4,x1,x2,x3,x4,ys,a4,hT.trans s3 l3 oM a5⟩,dk _ J,oM,fu⟩
theorem Ls(k:Nat)(ih:fj 101 true k)(H0:N7)(lo u:Nat)(b2:lo<=u)(b4:u<H0.next)(O0:Nat->Prop)(s0:SpD)(va:Option Addr)(ca:Nat)(l:List Q)(hv:QsR H0 lo k true (.slice va l.length ca) l)(hn:l.length<=1048576)(p3:Value)(U:SpD):
  ∀kk e H2,(∃(i:Nat)(s:SpD)(m:Nat),kk=l.length-i/\i<=l.length/\e.get 0=pT u/\e.get 3=p3/\e.get 20= .slice va l.length ca/\e.get 21=iV l.length/\e.get 22=iV i/\fx u O0 s0 H0 H2 s/\Sm s m/\m+nL (l.drop i)<=100000/\(fsL true (l.drop i)).foldl L7 s=U)->
  w7 (LE prog t6 (.loop Oe) e H2) (fun o e H2=>o= .exit 2/\e.get 0=pT u/\e.get 3=p3/\fx u O0 s0 H0 H2 U):=by
 refine i8 _ _ ?_;rintro kk e H2 ⟨i,s,m,b6,hi,f0,f3,fL,fM,fJ,hQ,J,z,fu⟩;rcases b:decide ((i:Int)<l.length)with _|_
 .have a6:=dF b;have:l.drop i=[]:=dN oM;rw[this,fsL,List.foldl_nil]at fu;refine J3 fM fJ b ?_;exact i9 ⟨rfl,f0,f3,by rw[<-fu];exact hQ⟩
 have a6:=dT b;obtain⟨O,w1,w2,w3,w4,us,hR,hT⟩:=hQ;have hS:=hT.stay;have b8:=hS.next;have a9:=u7 hR.g;obtain⟨x,nb,o,cs,own,el,hx,hd,rfl,b7,hg,b1,D,hr⟩:=hv.row (i:=i) oM;have b9:=mG hx;have nt:(i:Int).toNat=i:=tN i;simp only[qSz,if_true,bF]at D hg b1;rw[fU _ _ _ _ hd,List.foldl_append]at fu;have a8:m+(nQ x+nL (l.drop (i+1)))<=100000:=by rw[hd,nL]at z;exact z
 have a1:el.all oC=true:=F7 hr;have X:=hr.len;simp only[qSz,if_true,bF]at X;have S:=N5 hr;rw[X]at S;have gx:=(hS.get nb oM).trans hg;obtain⟨W,E,n3,g3,s3⟩:=pushP H2 (bC [iV 0,.string eB,.string eB,.string eB,nS,nS] 1) (bC el 1);have l3:W.low<=H2.low:=by rw[E,A4,l9];omega
 have b3:splice [iV 0,.string eB,.string eB,.string eB,nS,nS] 0 el=el:=x9 _ _ (by rw[X];rfl);have a2:∀j,j<lo->W.get j=H0.get j:=fun j hj=>by rw[s3.get j oM,hS.get j oM]
 have a3:cd W u O s w1 w2 w3 w4 us:=hR.keep (fun j hj=>s3.get j (by rcases hj with rfl|hj;exact a9;exact(hR.lt j hj).2)) (fun _ h=>h) (fun b hb=>by have:=hR.lt b hb;omega);obtain⟨v4,h4,H4,a7,b0,rfl,O4,x1,x2,x3,x4,ys,a4,a5⟩:=ih W lo u O s w1 w2 w3 w4 us el x m b2 a3 (hr.mono a2 lR) J oM;refine J17 f0 fL fM fJ b gx nt D a1 X b3 E.symm g3 S a7 b0 @wrap_small ?_;have b5:=jN true x;exact i4 (kk-1) oM ⟨i+1,_,m+(fsQ true x).length,oM,oM,f0,f3,fL,fM,rfl,⟨O4,x1,x2,x3,x4,ys,a4,hT.trans s3 l3 oM a5⟩,dk _ J,oM,fu⟩
theorem Hu(k:Nat)(ih:fj 101 true k)(H0:N7)(lo u:Nat)(b2:lo<=u)(b4:u<H0.next)(O0:Nat->Prop)(s0:SpD)(va:Option Addr)(ca:Nat)(l:List Q)(hv:QsR H0 lo k true (.slice va l.length ca) l)(hn:l.length<=1048576)(p3:Value)(U:SpD):
  ∀kk e H2,(∃(i:Nat)(s:SpD)(m:Nat),kk=l.length-i/\i<=l.length/\e.get 0=pT u/\e.get 3=p3/\e.get 70= .slice va l.length ca/\e.get 71=iV l.length/\e.get 72=iV i/\fx u O0 s0 H0 H2 s/\Sm s m/\m+nL (l.drop i)<=100000/\(fsL true (l.drop i)).foldl L7 s=U)->
  w7 (LE prog t6 (.loop Kn) e H2) (fun o e H2=>o= .exit 1/\e.get 0=pT u/\e.get 3=p3/\fx u O0 s0 H0 H2 U):=by
 refine i8 _ _ ?_;rintro kk e H2 ⟨i,s,m,b6,hi,f0,f3,fL,fM,fJ,hQ,J,z,fu⟩;rcases b:decide ((i:Int)<l.length)with _|_
 .have a6:=dF b;have:l.drop i=[]:=dN oM;rw[this,fsL,List.foldl_nil]at fu;refine J3 fM fJ b ?_;exact i9 ⟨rfl,f0,f3,by rw[<-fu];exact hQ⟩
 have a6:=dT b;obtain⟨O,w1,w2,w3,w4,us,hR,hT⟩:=hQ;have hS:=hT.stay;have b8:=hS.next;have a9:=u7 hR.g;obtain⟨x,nb,o,cs,own,el,hx,hd,rfl,b7,hg,b1,D,hr⟩:=hv.row (i:=i) oM;have b9:=mG hx;have nt:(i:Int).toNat=i:=tN i;simp only[qSz,if_true,bF]at D hg b1;rw[fU _ _ _ _ hd,List.foldl_append]at fu;have a8:m+(nQ x+nL (l.drop (i+1)))<=100000:=by rw[hd,nL]at z;exact z
 have a1:el.all oC=true:=F7 hr;have X:=hr.len;simp only[qSz,if_true,bF]at X;have S:=N5 hr;rw[X]at S;have gx:=(hS.get nb oM).trans hg;obtain⟨W,E,n3,g3,s3⟩:=pushP H2 (bC [iV 0,.string eB,.string eB,.string eB,nS,nS] 1) (bC el 1);have l3:W.low<=H2.low:=by rw[E,A4,l9];omega
 have b3:splice [iV 0,.string eB,.string eB,.string eB,nS,nS] 0 el=el:=x9 _ _ (by rw[X];rfl);have a2:∀j,j<lo->W.get j=H0.get j:=fun j hj=>by rw[s3.get j oM,hS.get j oM]
 have a3:cd W u O s w1 w2 w3 w4 us:=hR.keep (fun j hj=>s3.get j (by rcases hj with rfl|hj;exact a9;exact(hR.lt j hj).2)) (fun _ h=>h) (fun b hb=>by have:=hR.lt b hb;omega);obtain⟨v4,h4,H4,a7,b0,rfl,O4,x1,x2,x3,x4,ys,a4,a5⟩:=ih W lo u O s w1 w2 w3 w4 us el x m b2 a3 (hr.mono a2 lR) J oM;refine J17 f0 fL fM fJ b gx nt D a1 X b3 E.symm g3 S a7 b0 @wrap_small ?_;have b5:=jN true x;exact i4 (kk-1) oM ⟨i+1,_,m+(fsQ true x).length,oM,oM,f0,f3,fL,fM,rfl,⟨O4,x1,x2,x3,x4,ys,a4,hT.trans s3 l3 oM a5⟩,dk _ J,oM,fu⟩
theorem Hv(k:Nat)(ih:fj 79 false k)(H0:N7)(lo u:Nat)(b2:lo<=u)(b4:u<H0.next)(O0:Nat->Prop)(s0:SpD)(va:Option Addr)(ca:Nat)(l:List Q)(hv:QsR H0 lo k false (.slice va l.length ca) l)(hn:l.length<=1048576)(p3:Value)(U:SpD):
  ∀kk e H2,(∃(i:Nat)(s:SpD)(m:Nat),kk=l.length-i/\i<=l.length/\e.get 0=pT u/\e.get 3=p3/\e.get 81= .slice va l.length ca/\e.get 82=iV l.length/\e.get 83=iV i/\fx u O0 s0 H0 H2 s/\Sm s m/\m+nL (l.drop i)<=100000/\(fsL false (l.drop i)).foldl L7 s=U)->
  w7 (LE prog t6 (.loop Ko) e H2) (fun o e H2=>o= .exit 3/\e.get 0=pT u/\e.get 3=p3/\fx u O0 s0 H0 H2 U):=by
 refine i8 _ _ ?_;rintro kk e H2 ⟨i,s,m,b6,hi,f0,f3,fL,fM,fJ,hQ,J,z,fu⟩;rcases b:decide ((i:Int)<l.length)with _|_
 .have a6:=dF b;have:l.drop i=[]:=dN oM;rw[this,fsL,List.foldl_nil]at fu;refine J3 fM fJ b ?_;exact i9 ⟨rfl,f0,f3,by rw[<-fu];exact hQ⟩
 have a6:=dT b;obtain⟨O,w1,w2,w3,w4,us,hR,hT⟩:=hQ;have hS:=hT.stay;have b8:=hS.next;have a9:=u7 hR.g;obtain⟨x,nb,o,cs,own,el,hx,hd,rfl,b7,hg,b1,D,hr⟩:=hv.row (i:=i) oM;have b9:=mG hx;have nt:(i:Int).toNat=i:=tN i;simp only[qSz,if_true,bF]at D hg b1;rw[fU _ _ _ _ hd,List.foldl_append]at fu;have a8:m+(nQ x+nL (l.drop (i+1)))<=100000:=by rw[hd,nL]at z;exact z
 have a1:el.all oC=true:=F7 hr;have X:=hr.len;simp only[qSz,if_true,bF]at X;have S:=N5 hr;rw[X]at S;have gx:=(hS.get nb oM).trans hg;obtain⟨W,E,n3,g3,s3⟩:=pushP H2 (bC [iV 0,nS,nS] 1) (bC el 1);have l3:W.low<=H2.low:=by rw[E,A4,l9];omega
 have b3:splice [iV 0,nS,nS] 0 el=el:=x9 _ _ (by rw[X];rfl);have a2:∀j,j<lo->W.get j=H0.get j:=fun j hj=>by rw[s3.get j oM,hS.get j oM]
 have a3:cd W u O s w1 w2 w3 w4 us:=hR.keep (fun j hj=>s3.get j (by rcases hj with rfl|hj;exact a9;exact(hR.lt j hj).2)) (fun _ h=>h) (fun b hb=>by have:=hR.lt b hb;omega);obtain⟨v4,h4,H4,a7,b0,rfl,O4,x1,x2,x3,x4,ys,a4,a5⟩:=ih W lo u O s w1 w2 w3 w4 us el x m b2 a3 (hr.mono a2 lR) J oM;refine J17 f0 fL fM fJ b gx nt D a1 X b3 E.symm g3 S a7 b0 @wrap_small ?_;have b5:=jN false x;exact i4 (kk-1) oM ⟨i+1,_,m+(fsQ false x).length,oM,oM,f0,f3,fL,fM,rfl,⟨O4,x1,x2,x3,x4,ys,a4,hT.trans s3 l3 oM a5⟩,dk _ J,oM,fu⟩
theorem PM(k:Nat)(a6:fj 79 false k)(a7:fj 101 true k):fj 79 false (k+1):=by
 intro H lo gb O s w1 w2 w3 w4 us cs q m S D hr W a8;have b2:=fq q;have a5:=u7 D.g;obtain⟨va,ca,wa,u,rfl,h1,h2,h3,h4⟩:=hr.path;obtain⟨E,J,-,hg,X⟩:=pushF H (bC [iV q.op,.slice va q.a.length ca,.slice wa q.b.length u] 1);have U:H.next<=E.low:=by rw[J,l9];exact lR
 have hn:=X.next;have b1:=u7 hg;have hm:∀j,j<lo->E.get j=H.get j:=fun j hj=>X.get j oM;have a3:cd E gb O s w1 w2 w3 w4 us:=D.keep (fun j hj=>X.get j (by rcases hj with rfl|hj;exact a5;exact(D.lt j hj).2)) (fun _ h=>h) (fun b hb=>by have:=D.lt b hb;omega);rw[j7 KZ rfl _ sM,kg,if_neg (by decide),List.nil_append];refine J2 J.symm hg ?_;refine j8 (F:=fun z=>Ret (u5 _ _ _ (u9 (inBlock 0 z) _)) _ _) (Lr k a6 E lo gb S oM O s va ca q.a (h1.mono hm lR) h3 (pT H.next) ((fsL false q.a).foldl L7 s) q.a.length _ _ ⟨0,s,m,rfl,oM,rfl,rfl,rfl,rfl,rfl,⟨O,w1,w2,w3,w4,us,a3,lu.refl _ _ _ _⟩,W,by rw[List.drop_zero];omega,rfl⟩) ?_;rintro o e' H2 ⟨ho,g0,g3,hQ⟩;have a1:=hQ;obtain⟨_,_,_,_,_,_,_,T⟩:=a1;have b0:=T.stay.next;have a4:H2.get H.next=cE [iV q.op,.slice va q.a.length ca,.slice wa q.b.length u] 1:=(T.but H.next oM oM (fun q=>by have:=D.lt _ q;omega)).trans hg;have a9:=jp false q.a;refine J3 ho g3 a4 ?_;refine j8 (F:=fun z=>Ret (u5 _ _ _ (inBlock 2 z)) _ _) (Ls k a7 E lo gb S oM O s wa u q.b (h2.mono hm lR) h4 (pT H.next) ((fsL false q.a++fsL true q.b).foldl L7 s) q.b.length _ _ ⟨0,_,m+(fsL false q.a).length,rfl,oM,g0,g3,rfl,rfl,rfl,hQ,dk _ W,by rw[List.drop_zero];omega,by rw[List.drop_zero,List.foldl_append]⟩) ?_;rintro o e' H3 ⟨ho,g0,g3,a2⟩;refine J1 ho ?_;exact lY X U D a2
theorem Lq(k:Nat)(b1:fj 101 true k)(b2:fj 79 false k):fj 101 true (k+1):=by
 intro H lo gb O s w1 w2 w3 w4 us cs q m a3 E hr D b3;have b7:=fq q;have a8:=u7 E.g;obtain⟨va,ca,wa,S,u,h1,h2,h3,h4,_⟩:=hr.filter;obtain⟨W,a1,-,hg,hS⟩:=pushF H (bC cs 1);have a4:H.next<=W.low:=by rw[a1,l9];exact lR
 have hn:=hS.next;have b6:=u7 hg;have hm:∀j,j<lo->W.get j=H.get j:=fun j hj=>hS.get j oM;have a6:cd W gb O s w1 w2 w3 w4 us:=E.keep (fun j hj=>hS.get j (by rcases hj with rfl|hj;exact a8;exact(E.lt j hj).2)) (fun _ h=>h) (fun b hb=>by have:=E.lt b hb;omega);have al:cs.all oC=true:=by rw[u];rfl
 have r0:cs[0]?=some (.int .i64 q.op):=by rw[u];rfl
 have r4:cs[4]?=some (.slice va q.a.length ca):=by rw[u];rfl
 have r5:cs[5]?=some (.slice wa q.b.length S):=by rw[u];rfl
 have b0:Sm s 100000:=⟨by have:=D.1;omega,by have:=D.2.1;omega,fun l hl=>by have:=D.2.2.1 l hl;omega,by have:=D.2.2.2;omega⟩
 rw[j7 OD rfl _ sM,kg,if_pos rfl,List.singleton_append,List.foldl_cons,Bool.not_true];refine J4 al a1.symm hg r0 ?_;refine j8 (F:=fun z=>Ret (u5 _ _ _ (u9 z _)) _ _) (xm W gb H.next O s w1 w2 w3 w4 us q va wa ca S a6 b0 oM (fun h=>by have:=E.lt _ h;omega) cs u hg _ rfl rfl rfl) ?_;rintro o e1 Hs ⟨rfl,g0,X,a2⟩;have J:=vE D q;have U:=a2;obtain⟨_,_,_,_,_,_,_,T0⟩:=U;have b8:=T0.stay.next;have a9:Hs.get H.next=cE cs 1:=(T0.but H.next oM oM (fun q=>by have:=E.lt _ q;omega)).trans hg;refine J3 X a9 r4 ?_;refine j8 (F:=fun z=>Ret (u5 _ _ _ (u9 (inBlock 1 z) _)) _ _) (Hu k b1 W lo gb a3 oM O s va ca q.a (h1.mono hm lR) h3 (pT H.next) ((fsL true q.a).foldl L7 (L7 s q)) q.a.length _ _ ⟨0,L7 s q,m+1,rfl,oM,g0,X,rfl,rfl,rfl,a2,J,by rw[List.drop_zero];omega,rfl⟩) ?_;rintro o e' H2 ⟨ho,g0,X,hQ⟩;have U:=hQ;obtain⟨_,_,_,_,_,_,_,T⟩:=U;have b5:=T.stay.next;have a7:H2.get H.next=cE cs 1:=(T.but H.next oM oM (fun q=>by have:=E.lt _ q;omega)).trans hg;have b4:=jp true q.a;refine J4 ho X a7 r5 ?_;refine j8 (F:=fun z=>Ret (u5 _ _ _ (inBlock 3 z)) _ _) (Hv k b2 W lo gb a3 oM O s wa S q.b (h2.mono hm lR) h4 (pT H.next) ((fsL true q.a++fsL false q.b).foldl L7 (L7 s q)) q.b.length _ _ ⟨0,_,m+1+(fsL true q.a).length,rfl,oM,g0,X,rfl,rfl,rfl,hQ,dk _ J,by rw[List.drop_zero];omega,by rw[List.drop_zero,List.foldl_append]⟩) ?_;rintro o e' H3 ⟨ho,g0,X,a5⟩;refine J1 ho ?_;exact lY hS a4 E a5
theorem Hw:∀k,fj 79 false k/\fj 101 true k:=by
 intro k;induction k with
 |zero=>exact⟨fun H lo D O s w1 w2 w3 w4 us cs q m _ _ z=>z.elim,fun H lo D O s w1 w2 w3 w4 us cs q m _ _ z=>z.elim⟩
 |succ k u=>exact⟨PM k u.1 u.2,Lq k u.2 u.1⟩
structure SpO(H:N7)(lo:Nat)(O:Nat->Prop)(s:SpD)(w1 w2 w3 w4:Value)(us:LV):Prop where
 n:u6 H lo 2 (w9 nmE) w1 s.names
 a:u6 H lo 2 (w9 nmE) w2 s.attrs
 v:u6 H lo 1 (w9 fun u=>[u]) w3 us
 len:us.length=s.vals.length
 u:∀(i:Nat)(u:Value)(l:List ByteArray),us[i]?=some u->s.vals[i]?=some l->u6 H lo 1 (w9 stE) u l
 t:u6 H lo 1 (w9 stE) w4 s.texts
 ap:bV (w1::w2::w3::w4::us)
 o:∀w∈w1::w2::w3::w4::us,∀b,l7 w b->O b
 lt:∀b,O b->lo<=b/\b<H.next
theorem SpO.keep{H H':N7}{lo D:Nat}{O S:Nat->Prop}{s:SpD}{w1 w2 w3 w4:Value}{us:LV}(h:SpO H lo O s w1 w2 w3 w4 us)(E:∀j,O j->H'.get j=H.get j) (hO:∀b,O b->S b) (W:∀b,S b->D<=b/\b<H'.next) (J:D<=lo):SpO H' D S s w1 w2 w3 w4 us:=
 ⟨(h.n.same fun b z=>E b (h.o _ sM b z)).weaken J,(h.a.same fun b z=>E b (h.o _ sM b z)).weaken J,(h.v.same fun b z=>E b (h.o _ sM b z)).weaken J,h.len,
  fun i u l X U=>((h.u i u l X U).same fun b z=>E b (h.o _ (by simp [mG X]) b z)).weaken J,(h.t.same fun b z=>E b (h.o _ sM b z)).weaken J,h.ap,fun w hw b z=>hO b (h.o w hw b z),W⟩
theorem cd.spo{H:N7}{z:Nat}{O:Nat->Prop}{s:SpD}{w1 w2 w3 w4:Value}{us:LV}(h:cd H z O s w1 w2 w3 w4 us):SpO H (z+1) O s w1 w2 w3 w4 us:=⟨h.n,h.a,h.v,h.len,h.u,h.t,h.ap,h.o,fun b D=>h.lt b D⟩
theorem vA(k:Nat)(H0:N7)(lo u:Nat)(b2:lo<=u)(b4:u<H0.next)(O0:Nat->Prop)(s0:SpD)(va:Option Addr)(ca:Nat)(l:List Q)(hv:QsR H0 lo k false (.slice va l.length ca) l)(hn:l.length<=1048576)(p2:Value)(U:SpD):
  ∀kk e H2,(∃(i:Nat)(s:SpD)(m:Nat),kk=l.length-i/\i<=l.length/\e.get 3=pT u/\e.get 2=p2/\e.get 6= .slice va l.length ca/\e.get 7=iV l.length/\e.get 8=iV i/\fx u O0 s0 H0 H2 s/\Sm s m/\m+nL (l.drop i)<=100000/\(fsL false (l.drop i)).foldl L7 s=U)->
  w7 (LE prog t6 (.loop NF) e H2) (fun o e H2=>o= .exit 0/\e.get 3=pT u/\e.get 2=p2/\fx u O0 s0 H0 H2 U):=by
 refine i8 _ _ ?_;rintro kk e H2 ⟨i,s,m,b6,hi,f0,f3,fL,fM,fJ,hQ,J,z,fu⟩;rcases b:decide ((i:Int)<l.length)with _|_
 .have a6:=dF b;have:l.drop i=[]:=dN oM;rw[this,fsL,List.foldl_nil]at fu;refine J3 fM fJ b ?_;exact i9 ⟨rfl,f0,f3,by rw[<-fu];exact hQ⟩
 have a6:=dT b;obtain⟨O,w1,w2,w3,w4,us,hR,hT⟩:=hQ;have hS:=hT.stay;have b8:=hS.next;have a9:=u7 hR.g;obtain⟨x,nb,o,cs,own,el,hx,hd,rfl,b7,hg,b1,D,hr⟩:=hv.row (i:=i) oM;have nt:(i:Int).toNat=i:=tN i;simp only[qSz,bF]at D hg b1;rw[fU _ _ _ _ hd,List.foldl_append]at fu;have a8:m+(nQ x+nL (l.drop (i+1)))<=100000:=by rw[hd,nL]at z;exact z
 have a1:el.all oC=true:=F7 hr;have X:=hr.len;simp only[qSz,bF]at X;have S:=N5 hr;rw[X]at S;have gx:=(hS.get nb oM).trans hg;obtain⟨W,E,n3,g3,s3⟩:=pushP H2 (bC [iV 0,nS,nS] 1) (bC el 1);have l3:W.low<=H2.low:=by rw[E,A4,l9];omega
 have b3:splice [iV 0,nS,nS] 0 el=el:=x9 _ _ (by rw[X];rfl);have a2:∀j,j<lo->W.get j=H0.get j:=fun j hj=>by rw[s3.get j oM,hS.get j oM]
 have a3:cd W u O s w1 w2 w3 w4 us:=hR.keep (fun j hj=>s3.get j (by rcases hj with rfl|hj;exact a9;exact(hR.lt j hj).2)) (fun _ h=>h) (fun b hb=>by have:=hR.lt b hb;omega);obtain⟨v4,h4,H4,a7,b0,rfl,O4,x1,x2,x3,x4,ys,a4,a5⟩:=(Hw k).1 W lo u O s w1 w2 w3 w4 us el x m b2 a3 (hr.mono a2 lR) J oM;refine J17 f0 fL fM fJ b gx nt D a1 X b3 E.symm g3 S a7 b0 @wrap_small ?_;have b5:=jN false x;exact i4 (kk-1) oM ⟨i+1,_,m+(fsQ false x).length,oM,oM,f0,f3,fL,fM,rfl,⟨O4,x1,x2,x3,x4,ys,a4,hT.trans s3 l3 oM a5⟩,dk _ J,oM,fu⟩
theorem MB(H:N7)(lo k:Nat)(v:Value)(l:List Q)(c0:lo<=H.next)(hv:QsR H lo k false v l)(b8:nL l<=100000)(hn:l.length<=1048576):
  Ret (CL prog t6 52 [v] H) H fun w U=>∃w1 w2 w3 w4 us O,w= .agg #[w1,w2,w3,w4]/\SpO U H.next O ((fsL false l).foldl L7 ⟨[],[],[],[]⟩) w1 w2 w3 w4 us/\i6 H.next H U:=by
 obtain⟨va,ca,rfl⟩:=SlI.slice hv;obtain⟨X,a6⟩:=eY ([nS,nS,nS,nS]:LV);obtain⟨U,S⟩:=eY ((N7.push ⟨H.bs,H.next⟩ (bC X 1)).push (bC X 1));have n0:(N7.push ⟨H.bs,H.next⟩ (bC X 1)).next=H.next+1:=by rw[i5];rfl
 have n1:U.next=H.next+2:=by rw[S,i5,n0]
 have hS:i6 H.next H U:=by rw[S];exact(i6.first H _).trans (i6.push oM)
 have g1:U.get H.next=cE X 1:=by rw[S,i7 oM];exact j9
 have g2:U.get (H.next+1)=cE X 1:=by rw[S];exact y7 oM
 have a8:H.next<=U.low:=by rw[S,l9,l9];exact lR
 have hm:∀j,j<lo->U.get j=H.get j:=fun j hj=>hS.get j oM;have a7:bV ([nS,nS,nS,nS]:LV):=fun i j a b ha W b9 x hx hy=>by
  have:a=nS:=by
   have:=mG ha
   simpa using this
  rw[this]at hx;exact B8 x hx
 have b0:∀w∈([nS,nS,nS,nS]:LV),∀b,l7 w b->False:=fun w hw b W=>by
  have:w=nS:=by simpa using hw
  rw[this]at W;exact B8 b W
 have b4:cd U (H.next+1) (fun _=>False) ⟨[],[],[],[]⟩ (nS) (nS) (nS) (nS) []:=⟨by rw[g2,a6],u6.nil,u6.nil,u6.nil,rfl,rfl,fun i u l hu=>(by cases hu),u6.nil,a7,b0,fun b W=>W.elim⟩
 rw[j7 Pr rfl _ sM];refine J2 a6.symm S.symm ?_;refine j8 (F:=fun z=>Ret (u5 _ _ _ (u9 (inBlock 0 z) _)) _ _) (vA k U lo (H.next+1) oM oM (fun _=>False) ⟨[],[],[],[]⟩ va ca l (SlI.mono hv hm lR fun _ _ h=>h.mono hm lR) hn (pT H.next) _ l.length _ _ ⟨0,⟨[],[],[],[]⟩,0,rfl,oM,rfl,rfl,rfl,rfl,rfl,⟨_,_,_,_,_,_,b4,lu.refl _ _ _ _⟩,⟨lR,lR,fun l hl=>(by cases hl),lR⟩,by rw[List.drop_zero];omega,rfl⟩) ?_;rintro o e' H2 ⟨ho,q3,q2,O,w1,w2,w3,w4,us,J,hT⟩;rw[List.drop_zero]at J hT;have n2:=hT.stay.next;have gg:=J.g;have b3:H2.get H.next=cE X 1:=(hT.stay.get _ oM).trans g1;obtain⟨a1,c1,e1⟩:=J.n.slice;obtain⟨a2,c2,e2⟩:=J.a.slice;obtain⟨a3,c3,e3⟩:=J.v.slice;obtain⟨a4,c4,e4⟩:=J.t.slice;obtain⟨E,D⟩:∃r,r=[w1,w2,w3,w4]:=eX;rw[<-D]at gg;have b6:ldC (some true) (some 4) 0 E=some (.agg E.toArray):=by rw[D];rfl
 have b2:E.all oC=true:=by rw[D,e1,e2,e3,e4];rfl
 have l4:E.length=4:=by rw[D];rfl
 have lz:X.length=4:=by rw[a6];rfl
 have b7:splice X 0 E=E:=x9 _ _ (by rw[l4,lz]);obtain⟨H3,a5⟩:=eY (H2.put H.next (bC E 1));have n3:H3.next=H2.next:=by rw[a5,t5]
 have g3:H3.get H.next=cE E 1:=by rw[a5];exact j5 oM
 have b1:i6 H.next U H3:=by rw[a5];exact(hT.stay.weaken oM).trans (i6.put lR)
 have b5:=b1.low a8;refine J12 ho q3 q2 gg b6 b3 l4 lz b2 b7 a5.symm g3 ?_;have a9:SpO H3 H.next O _ w1 w2 w3 w4 us:=J.spo.keep (fun j hj=>by rw[a5,j6 (oN (J.lt j hj))]) (fun _ h=>h) (fun b W=>by have:=J.lt b W;omega) oM;refine dI (fun hc=>?_) ?_
 .rw[D]at hc;simp only[List.all_cons,List.all_nil,Bool.and_true,Bool.and_eq_true]at hc;obtain⟨z1,y1⟩:=bG J.n hc.1;obtain⟨z2,y2⟩:=bG J.a hc.2.1;obtain⟨z3,y3⟩:=bG J.v hc.2.2.1;obtain⟨X,y4⟩:=bG J.t hc.2.2.2;have y5:=J.len;rw[y3]at y5;have y6:=List.length_eq_zero_iff.1 y5.symm;refine⟨w1,w2,w3,w4,[],fun _=>False,by rw[D],⟨?_,?_,?_,(by rw[y6];rfl),fun i u l hu=>(by cases hu),?_,(by rw[z1,z2,z3,X];exact a7),fun w hw b W=>?_,fun b W=>W.elim⟩,i6.refl _ _⟩
  .rw[y1,z1];exact u6.nil
  .rw[y2,z2];exact u6.nil
  .rw[z3];exact u6.nil
  .rw[y4,X];exact u6.nil
  .rw[z1,z2,z3,X]at hw;have:w=nS:=by simpa using hw
   rw[this]at W;exact B8 b W
 .exact⟨w1,w2,w3,w4,us,O,by rw[D],a9.keep (fun _ _=>rfl) (fun _ h=>h) a9.lt lR,(hS.trans b1).ret b5⟩
def S3:List (NmQ×List ByteArray)->EvD->List EvD
 |[],e=>[e]
 |x::r,e=>S3 r e++(Q4 x.2).flatMap fun v=>S3 r (atV x.1 e v)
theorem En(l:List ByteArray):Q4 l=l++[frS l eB [eB]]:=by
 have u:∀n,eB++dg n=dg n:=fun n=>by
  have z:=ct eB (dg n);exact rl (by rw[z];rfl)
 have D:frN l eB=T8 l:=by unfold frN T8;simp only[u]
 rw[Q4,frS,List.find?_cons];cases h:T7 l eB with
 |true=>simp [D,u]
 |false=>simp
structure vW(H:N7)(G:Nat->Prop)(pw pf:Nat)(fv:Value)(s:SpD)(w1 w2 w3 w4:Value):Prop where
 gw:H.get pw=cE [w1,w2,w3,w4] 1
 gf:H.get pf=cE [fv] 1
 iw:G pw
 jf:G pf
 a:SlF H G 2 (w9 nmE) w2 s.attrs
 v:SlF H G 1 (VlF H G) w3 s.vals
 len:s.vals.length=s.attrs.length
 al:s.attrs.length<=1000
 vl:∀x∈s.vals,x.length<=90
theorem vW.mono{H H':N7}{G G':Nat->Prop}{E D:Nat}{J:Value}{s:SpD}{w1 w2 w3 w4:Value}(h:vW H G E D J s w1 w2 w3 w4)(z:∀j,G j->H'.get j=H.get j) (u:∀j,G j->G' j):vW H' G' E D J s w1 w2 w3 w4:=
 ⟨(z E h.iw).trans h.gw,(z D h.jf).trans h.gf,u _ h.iw,u _ h.jf,h.a.mono z u iF,h.v.mono z u (fun _ _ h=>h.mono z u),h.len,h.al,h.vl⟩
structure fy(H:N7)(po:Nat)(G:Nat->Prop)(w:Value)(l:List EvD):Prop where
 g:H.get po=cE [w] 1
 own:u6 H (po+1) 5 (EvF H G) w l
 ap:∀j,G j->j<H.next/\j≠po/\¬l7 w j
structure dH(po:Nat)(G0:Nat->Prop)(w0:Value)(H0:N7)(G:Nat->Prop)(w:Value)(H:N7):Prop where
 sub:∀j,G0 j->G j
 new:∀j,G j->G0 j\/H0.next<=j
 but:∀j,j<H0.next->j≠po->¬l7 w0 j->H.get j=H0.get j
 neww:∀b,l7 w b->l7 w0 b\/H0.next<=b
 stay:i6 po H0 H
theorem dH.refl(po:Nat)(G:Nat->Prop)(w:Value)(H:N7):dH po G w H G w H:=⟨fun _ h=>h,fun _ h=> .inl h,fun _ _ _ _=>rfl,fun _ h=> .inl h,i6.refl _ _⟩
theorem dH.trans{po:Nat}{z G1 G2:Nat->Prop}{w0 w1 w2:Value}{H0 D H2:N7}(h:dH po z w0 H0 G1 w1 D)(k:dH po G1 w1 D G2 w2 H2):dH po z w0 H0 G2 w2 H2:=by
 have S:=h.stay.next;refine⟨fun j u=>k.sub j (h.sub j u),fun j u=>?_,fun j u E J=>?_,fun b O=>?_,h.stay.trans k.stay⟩
 .rcases k.new j u with q|q
  .exact h.new j q
  .exact .inr oM
 .rw[k.but j oM E (fun q=>by rcases h.neww j q with r|r;exact J r;omega),h.but j u E J]
 .rcases k.neww b O with q|q
  .exact h.neww b q
  .exact .inr oM
theorem fy.push{H D:N7}{po:Nat}{G G1:Nat->Prop}{w:Value}{l:List EvD}(h:fy H po G w l)(z:i6 H.next H D)(J:∀j,G j->G1 j) (O:∀j,G1 j->G j\/(H.next<=j/\j<D.next)):fy D po G1 w l/\dH po G w H G1 w D:=by
 have U:=z.next;have E:=u7 h.g;refine⟨⟨(z.get po E).trans h.g,(h.own.keep z).imp fun cs a q=>y9 _ _ _ _ _ _ q (fun j u=>z.get j (h.ap j u).1) J,fun j u=>?_⟩,J,fun j u=>(O j u).imp id fun q=>q.1,fun j u _ _=>z.get j u,fun b S=> .inl S,z.weaken oM⟩;rcases O j u with q|q
 .have:=h.ap j q;exact⟨oM,this.2⟩
 .exact⟨q.2,oM,fun r=>by have:=h.own.lt r;omega⟩
theorem fy.add{H:N7}{po:Nat}{G:Nat->Prop}{w:Value}{l:List EvD}(h:fy H po G w l){u:LV}{e:EvD}(X:EvF H G u e)(hl:l.length<=1000000):
  ∃v' J H',C2 prog (H.push (bC u 5)) [35,35] w (sL H.next 1 1)=dL v' J/\J.getD (H.push (bC u 5))=H'/\H'.get po=cE [w] 1/\(∃a c,v'= .slice a (l++[e]).length c)/\
   fy (H'.put po (bC [v'] 1)) po G v' (l++[e])/\dH po G w H G v' (H'.put po (bC [v'] 1)):=by
 have S:=u7 h.g;have E:u.length=5:=by obtain⟨v,rfl,_⟩:=X;rfl
 obtain⟨v',J,H',r1,r2,O,z⟩:=h.own.push1F (P:=prog) (t:=35) (cs:=u) (a:=e) (by exact lQ.2.2.2.2.2.2) S9.1 S9.2.1 S9.2.2.1 oM oM E X oM oM;have hn:=z.next;have nb:¬l7 w po:=fun q=>oN (h.own.lt q);have g2:=(z.but po S nb).trans h.g;have nv:¬l7 v' po:=fun q=>oN (O.lt q);have U:∀j,j<H.next->j≠po->¬l7 w j->(H'.put po (bC [v'] 1)).get j=H.get j:=fun j D h1 h2=>by rw[j6 (fun q=>h1 q.symm),z.but j D h2]
 refine⟨v',J,H',r1,r2,g2,O.slice,⟨j5 oM,(O.same fun b W=>j6 (fun q=>by rw[<-q]at W;exact nv W)).imp fun cs a q=>y9 _ _ _ _ _ _ q (fun j D=>by have:=h.ap j D;exact U j this.1 this.2.1 this.2.2) (fun _ h=>h),fun j D=>?_⟩,fun _ h=>h,fun _ h=> .inl h,U,z.new,(z.stay.weaken oM).trans (i6.put lR)⟩;have:=h.ap j D;refine⟨by rw[t5];omega,this.2.1,fun q=>?_⟩;rcases z.new j q with r|r
 .exact this.2.2 r
 .omega
abbrev Bm(pw po pf:Nat):Value:= .func (.func 54) #[] #[pT pw,pT po,pT pf]
def mm(rest:List (NmQ×List ByteArray)):Prop:=∀(H:N7)(pw po pf i:Nat)(G:Nat->Prop)(s:SpD)(w1 w2 w3 w4 w:Value)(l:List EvD)(row:LV)(e:EvD),
 vW H G pw pf (Bm pw po pf) s w1 w2 w3 w4->fy H po G w l->EvF H G row e->(s.attrs.zip s.vals).drop i=rest->i+rest.length=s.attrs.length->l.length+(S3 rest e).length<=1000000->e.attrs.length+rest.length<=1000->
 Ret (CL prog t6 54 [.agg row.toArray,iV i,pT pw,pT po,pT pf] H) H fun v H1=>v=undef/\∃G' w',fy H1 po G' w' (l++S3 rest e)/\dH po G w H G' w' H1/\H1.low<=po
theorem tz{H z H':N7}{po:Nat}{G G1:Nat->Prop}{w D:Value}{l:List EvD}(a1:po<H.next)(hw:∀b,l7 w b->po+1<=b/\b<H.next) (U:i6 H.next H z) (J:dH po G w H G1 w z) {G':Nat->Prop} (E:fy H' po G' D l) (W:dH po G1 w z G' D H') (S:H'.low<=po) (O:H.next<=z.low):
  Ret (some (D6 undef H H')) H fun v z=>v=undef/\∃G' D,fy z po G' D l/\dH po G w H G' D z/\z.low<=po:=by
 refine E1 (fun _ hl=>oM) ⟨rfl,G',D,⟨E.g,E.own.low _ |>.imp fun cs a q=>y9 _ _ _ _ _ _ q (fun _ _=>rfl) (fun _ h=>h),E.ap⟩,?_,by show min H.low H'.low<=po;omega⟩;have u:=J.trans W;refine⟨u.sub,u.new,u.but,u.neww,⟨u.stay.next,fun k X q=>?_,u.stay.get⟩⟩;have:=u.stay.lowAll k X q;show k<=min H.low H'.low;omega
theorem MS:mm []:=by
 intro H pw po pf i G s w1 w2 w3 w4 w l u e hC S he hd hi hl b5;have b1:=u7 S.g;have a9:=he;obtain⟨av,z,a7⟩:=a9;obtain⟨b3,b4,rfl⟩:=a7.slice;obtain⟨aa,ac,rfl⟩:=hC.a.slice;have ar:u.all oC=true:=by rw[z];rfl
 have lr:u.length=5:=by rw[z];rfl
 have b2:ldC (some true) (some 5) 0 u=some (.agg u.toArray):=by rw[z];rfl
 obtain⟨E,J,n1,g1,hS⟩:=pushF H (bC u 1);have a1:H.next<=E.low:=by rw[J];exact lR
 obtain⟨U,a6⟩:=S.push (G1:=G) hS (fun _ h=>h) (fun _ h=> .inl h);have a5:=hC.mono (H':=E) (fun j hj=>hS.get j (S.ap j hj).1) (fun _ h=>h);have a8:=y9 _ _ _ _ _ _ he (fun j hj=>hS.get j (S.ap j hj).1) (fun _ h=>h);obtain⟨v',h',H3,r1,r2,g3,⟨a',c',e'⟩,W,X⟩:=U.add a8 (by rw[S3]at hl;simp at hl;omega);obtain⟨H2,O⟩:=eY (E.push (bC u 5));rw[<-O]at r1 r2;have a2:bsA prog (some 51) E 1 [(0,.agg u.toArray)]=some (sL E.next 1 1,H2):=by
  rw[O];simp only[C7,S9,C8];rw[z];rfl
 obtain⟨H4,D⟩:=eY (H3.put po (bC [v'] 1));rw[<-D]at W X;have cu:v'.cells.toList=[v']:=by rw[e'];rfl
 have ou:Value.oneCell' v'=true:=by rw[e'];rfl
 have b0:H4.low<=po:=by rw[D,A4];omega
 have bi:decide ((i:Int)=s.attrs.length)=true:=decide_eq_true (by simp at hi;omega);have a4:=a5.gw;have a3:=U.g;have q1:∀a b c d:Value,[a,b,c,d][1]?=some b:=fun _ _ _ _=>rfl;rw[j7 KT rfl _ sM];refine J15 ar J.symm a4 q1 bi g1 b2 a3 a2 r1 r2 g3 cu ou D.symm ?_;exact tz b1 (fun b hb=>S.own.lt hb) hS a6 W X b0 a1
theorem EH(n:NmQ)(l4:List ByteArray)(rest:List (NmQ×List ByteArray))(ih:mm rest)(H0:N7)(pw po pf pe i:Nat)(J:Nat->Prop)(s:SpD)(w1 w2 w3 w4 w0:Value)(u:LV)(e0:EvD)(va:Option Addr)(ca:Nat)(O:List ByteArray)
  (E:vW H0 J pw pf (Bm pw po pf) s w1 w2 w3 w4) (c9:∀j,J j->j<H0.next/\j≠po/\¬l7 w0 j) (k9:po<H0.next) (he:EvF H0 J u e0) (d6:J pe) (g5:H0.get pe=cE u 1) (hv:SlF H0 J 1 (w9 stE) (.slice va O.length ca) O) (l3:O.length<=1000) (l1:1<=O.length)
  (hd:(s.attrs.zip s.vals).drop (i+1)=rest) (hi:i+1+rest.length=s.attrs.length) (hn:s.attrs[i]?=some n) (k1:e0.attrs.length+1+rest.length<=1000) (a4:List EvD):
  ∀kk e H2,(∃(j:Nat)(G:Nat->Prop)(w:Value)(l:List EvD),kk=O.length-j/\j<=O.length/\e.get 1=iV i/\e.get 2=pT pw/\e.get 4=pT pf/\e.get 5=pT pe/\e.get 40= .slice va O.length ca/\e.get 41=iV O.length/\e.get 42=iV j/\
    fy H2 po G w l/\dH po J w0 H0 G w H2/\(j=0\/H2.low<=po)/\l++((O.drop j).flatMap fun v=>S3 rest (atV n e0 v))=a4/\a4.length<=1000000)->
  w7 (LE prog t6 (.loop NH) e H2) (fun o e H2=>o= .exit 0/\∃(G:Nat->Prop)(w:Value),fy H2 po G w a4/\dH po J w0 H0 G w H2/\H2.low<=po):=by
 refine i8 _ _ ?_;rintro kk e H2 ⟨j,G,w,l,k6,D,f1,f2,f4,f5,b5,a7,b6,hO,hT,k8,fu,d8⟩;rcases b:decide ((j:Int)<O.length)with _|_
 .have g0:=dF b;have:O.drop j=[]:=dN oM;rw[this,List.flatMap_nil,List.append_nil]at fu;refine J3 a7 b6 b ?_;exact i9 ⟨rfl,G,w,by rw[<-fu];exact hO,hT,oM⟩
 have g0:=dT b;have fr:∀j,J j->H2.get j=H0.get j:=fun j D=>by have:=c9 j D;exact hT.but j this.1 this.2.1 this.2.2
 have nx:=hT.stay.next;obtain⟨v,nb,o,cs,own,j2,hx,g1,rfl,hF,hg,k7,i2,hc,rfl⟩:=hv.row (i:=j) oM;have c0:=hc 0 oM;rw[Nat.add_zero]at c0;have h2:(j:Int).toNat=j:=tN j;rw[g1,List.flatMap_cons,<-List.append_assoc]at fu;have gv:=(fr nb hF).trans hg;have j4:=E.mono fr hT.sub;obtain⟨av,X,d0⟩:=y9 _ _ _ _ _ _ he fr hT.sub;obtain⟨b2,b3,rfl⟩:=d0.slice;have i1:po<H2.next:=oM;have ar:u.all oC=true:=by rw[X];rfl
 have lr:u.length=5:=by rw[X];rfl
 have h0:ldC (some true) (some 5) 0 u=some (.agg u.toArray):=by rw[X];rfl
 have r3:u[3]?=some (.slice b2 e0.attrs.length b3):=by rw[X];rfl
 have b9:=(fr pe d6).trans g5;obtain⟨Ha,c7,na,g4,-⟩:=pushE H2 (bC [iV 0,.string eB,.string eB,nS,.string eB] 1);obtain⟨H3,a2⟩:=eY (Ha.put H2.next (bC u 1));have n3:H3.next=H2.next+1:=by rw[a2,t5,na]
 have s3:i6 H2.next H2 H3:=by rw[a2,c7];exact(i6.push lR).trans (i6.put lR)
 have g3:H3.get H2.next=cE u 1:=by rw[a2];exact j5 oM
 have h3:splice [iV 0,.string eB,.string eB,nS,.string eB] 0 u=u:=x9 _ _ (by rw[lr];rfl);have b0:∀j,J j->j<H2.next:=fun j D=>oN (c9 j D);have a1:∀j,J j->H3.get j=H2.get j:=fun j D=>s3.get j (b0 j D);have e4:=(a1 pe d6).trans b9;have c4:=(a1 pw E.iw).trans ((fr pw E.iw).trans E.gw);have j3:=(a1 pf E.jf).trans ((fr pf E.jf).trans E.gf);obtain⟨cv,k3,H4,d1,d3,f3,s4⟩:=zk (α:=AtD) (w9 atE) H3 H3.next (.slice b2 e0.attrs.length b3) e0.attrs lR ((d0.mono (H':=H3) (F':=(· <H3.next)) (fun j D=>by have:=hO.ap j D;exact s3.get j this.1) (fun j D=>by have:=hO.ap j D;omega) iF).sl fun _ h=>h) oM;have n4:=s4.next;have b7:∀j,J j->H4.get j=H3.get j:=fun j D=>s4.get j (oN (b0 j D));obtain⟨aa,ac,e2⟩:=E.a.slice;obtain⟨nn,b1,oa,j0,i3,j1,g9,k4,e3,a8,d4,h7,a9,k2,rfl⟩:=(e2▸E.a).row (i:=i) (by have:=(gS hn).1;exact this);obtain rfl:n=nn:=Option.some.inj (hn.symm.trans g9);have c3:=(a1 b1 a8).trans ((fr b1 a8).trans d4);have e7:=(b7 b1 a8).trans c3;have e8:=(b7 pw E.iw).trans c4;have h1:(i:Int).toNat=i:=tN i;have k5:(i:Int)<s.attrs.length:=oN ((gS hn).1);obtain⟨H5,c5⟩:=eY (H4.push (bC [.string n.1,.string n.2,.string v] 3));obtain⟨v6,h6,H6,c8,a5,a3,s6⟩:=f3.push1 (P:=prog) (t:=49) (by exact CF.2.2.2.2.2.2) jQ.1 jQ.2.1 jQ.2.2.1 oM oM (cs:=[.string n.1,.string n.2,.string v]) (a:=(⟨n.1,n.2,v⟩:AtD)) rfl rfl oM oM;rw[<-c5]at c8 a5;have n6:=s6.next;obtain⟨a6,c6,e6⟩:=a3.slice;have cu:v6.cells.toList=[v6]:=by rw[e6];rfl
 have ou:Value.oneCell' v6=true:=by rw[e6];rfl
 have e9:H6.get H2.next=cE u 1:=by rw[s6.get _ oM,s4.get _ oM];exact g3
 obtain⟨z,W⟩:=eY (u.set 3 v6);have S:z=[iV e0.kind,.string e0.space,.string e0.loc,v6,.string e0.text]:=by rw[W,X];rfl
 have h4:splice u 3 [v6]=z:=by rw[W];rfl
 obtain⟨H7,U⟩:=eY (H6.put H2.next (bC z 1));have n7:H7.next=H6.next:=by rw[U,t5]
 have g7:H7.get H2.next=cE z 1:=by rw[U];exact j5 oM
 have d9:ldC (some true) (some 5) 0 z=some (.agg z.toArray):=by rw[S];rfl
 have e1:i6 H2.next H2 H7:=by rw[U];exact((s3.trans (s4.weaken oM)).trans (s6.weaken oM)).trans (i6.put lR)
 obtain⟨f6,f8⟩:=hO.push (G1:=fun j=>G j\/l7 v6 j) e1 (fun _ h=> .inl h) (fun j D=>D.imp id fun q=>by have:=a3.lt q;omega);have g2:EvF H7 (fun j=>G j\/l7 v6 j) z (atV n e0 v):=⟨v6,S,(a3.same (H':=H7) fun b hb=>by rw[U];exact j6 (fun q=>by have:=a3.lt hb;omega)).frz fun b hb=> .inr hb⟩
 have b8:∀j,J j->H7.get j=H2.get j:=fun j D=>e1.get j (b0 j D);have f0:=E.mono (H':=H7) (G':=fun j=>G j\/l7 v6 j) (fun j D=>(b8 j D).trans (fr j D)) (fun j D=> .inl (hT.sub j D));have e5:=(b8 pf E.jf).trans ((fr pf E.jf).trans E.gf);have h5:(atV n e0 v).attrs.length=e0.attrs.length+1:=by simp [atV]
 have h9:l.length+(S3 rest (atV n e0 v)).length+((O.drop (j+1)).flatMap fun v=>S3 rest (atV n e0 v)).length=a4.length:=by rw[<-fu,List.length_append,List.length_append]
 obtain⟨vv,h8,H8,d2,d5,rfl,G8,w8,f7,f9,g8⟩:=ih H7 pw po pf (i+1) _ s w1 w2 w3 w4 w l z (atV n e0 v) f0 f6 g2 hd hi oM oM;have g6:((i:Int)+1)=((i+1:Nat):Int):=oM;have q1:∀a b c d:Value,[a,b,c,d][1]?=some b:=fun _ _ _ _=>rfl;have i0:(0:Int)<=i:=oM;have b4:bsA prog (some 53) H4 1 [(0,.agg #[.string n.1,.string n.2,.string v])]=some (sL H4.next 1 1,H5):=by
  rw[c5];simp only[C7,jQ,C8];rfl
 have k0:=E.al;subst e3;refine J30 f1 f2 f4 f5 b5 a7 b6 b gv h2 c0 b9 h0 c7.symm (aI g4 lr) (aI ar h3) (aI a2.symm r3) (aI e4 c4) (aI d1 d3) (aI e8 q1) (aI e2 h1) (aI c3 e7) (aI a9 b4) (aI c8 a5) (aI e9 cu) (aI ou h4) (aI U.symm g7) (aI d9 e5) (aI g6 d2) (aI d5 @wrap_small) ?_;exact i4 (kk-1) oM ⟨j+1,G8,w8,_,oM,oM,f1,f2,f4,f5,b5,a7,rfl,f7,(hT.trans f8).trans f9,.inr g8,fu,d8⟩
theorem MM{α β:Type}:∀(a:List α)(b:List β)(i:Nat)(x:α×β)(r:List (α×β)),(a.zip b).drop i=x::r->a[i]?=some x.1/\b[i]?=some x.2/\(a.zip b).drop (i+1)=r:=by
 intro a b i x r h;have u:i<(a.zip b).length:=by
  apply Classical.byContradiction;intro q;rw[dN oM]at h;cases h
 rw[List.drop_eq_getElem_cons u]at h
 injection h with h1 h2
 rw[List.length_zip]at u;rw[List.getElem_zip]at h1;refine⟨?_,?_,h2⟩
 .rw[List.getElem?_eq_getElem oM,<-h1]
 .rw[List.getElem?_eq_getElem oM,<-h1]
theorem MT(x:NmQ×List ByteArray)(r:List (NmQ×List ByteArray))(ih:mm r):mm (x::r):=by
 intro H pw po pf i G s w1 w2 w3 w4 w l J e hC hO he hd hi hl e2;obtain⟨hn,c5,b4⟩:=MM _ _ _ _ _ hd;rw[List.length_cons]at hi e2;have g7:=hC.al;have h3:=hC.len;have h5:=hC.vl _ (mG c5);have f6:=u7 hO.g;have f1:=he;obtain⟨av,U,e4⟩:=f1;obtain⟨g3,g4,rfl⟩:=e4.slice;obtain⟨aa,ac,ea⟩:=hC.a.slice;have ar:J.all oC=true:=by rw[U];rfl
 have lr:J.length=5:=by rw[U];rfl
 have f7:ldC (some true) (some 5) 0 J=some (.agg J.toArray):=by rw[U];rfl
 obtain⟨H1,b0,n1,g1,hS⟩:=pushF H (bC J 1);have c4:H.next<=H1.low:=by rw[b0];exact lR
 obtain⟨b2,d6⟩:=hO.push (G1:=fun j=>G j\/j=H.next) hS (fun _ h=> .inl h) (fun j h=>h.imp id fun q=>oM);have a6:∀j,G j->H1.get j=H.get j:=fun j E=>hS.get j (hO.ap j E).1;have W:=hC.mono (H':=H1) (G':=fun j=>G j\/j=H.next) a6 (fun _ h=> .inl h);have b5:=y9 _ _ _ _ _ _ he a6 (fun j E=>(.inl E:G j\/j=H.next));have f9:(S3 (x::r) e).length=(S3 r e).length+((Q4 x.2).flatMap fun v=>S3 r (atV x.1 e v)).length:=by rw[S3,List.length_append]
 obtain⟨_,h2,H2,e6,f3,rfl,G2,u2,S,D,h0⟩:=ih H1 pw po pf (i+1) _ s w1 w2 w3 w4 w l J e W b2 b5 b4 oM oM oM;have n2:=D.stay.next;have a2:∀j,(G j\/j=H.next)->H2.get j=H1.get j:=fun j E=>by have:=b2.ap j E;exact D.but j this.1 this.2.1 this.2.2
 have O:=W.mono (H':=H2) (G':=G2) a2 D.sub;have e9:=y9 _ _ _ _ _ _ b5 a2 D.sub;have g2:=(a2 H.next (.inr rfl)).trans g1;obtain⟨a3,c3,e3⟩:=O.v.slice;obtain⟨y,nb,o,cs,own,g5,hx,g9,c8,hF,hg,h1,h4,e8,u,rfl,hu⟩:=(e3▸O.v).row (i:=i) oM;obtain rfl:x.2=y:=Option.some.inj (c5.symm.trans hx);have c0:=e8 0 oM;rw[Nat.add_zero]at c0;have uF:SlI H2 H2.next 1 (w9 stE) u x.2:=hu.sl fun j E=>(S.ap j E).1;obtain⟨cv,g8,H3,b3,b8,d3,s3⟩:=GN (α:=ByteArray) (w9 stE) H2 H2.next u x.2 lR uF oM;have n3:=s3.next;obtain⟨H4,b1,n4,-,s4⟩:=pushE H3 (bC [.string eB] 1);have d4:u6 H4 H3.next 1 (w9 stE) (sL H3.next 1 1) [eB]:=by rw[b1];exact u6.fresh rfl lR (D2.one rfl rfl)
 obtain⟨fs,b6⟩:=eY (frS x.2 eB [eB]);have hf:=fresh H4 H2.next u (sL H3.next 1 1) x.2 eB [eB] oM (uF.mono (fun j E=>by rw[s4.get j oM,s3.get j E]) lR iF) d4.sl oM (by decide) (by decide);rw[<-b6]at hf;obtain⟨v7,h7,H6,e1,b9,X,s6⟩:=(d3.keep s4).push1 (P:=prog) (t:=97) (by exact bU.2.2.2.2.2.2) ty9.1 ty9.2.1 ty9.2.2.1 oM oM (cs:=[.string fs]) (a:=fs) rfl rfl oM oM;have n6:=s6.next;rw[show x.2++[fs]=Q4 x.2 by rw[En,b6]]at X;have c6:i6 H2.next H2 H6:=(s3.trans (s4.weaken n3)).trans (s6.weaken oM);obtain⟨a1,d8⟩:=S.push (G1:=fun j=>G2 j\/l7 v7 j) c6 (fun _ h=> .inl h) (fun j E=>E.imp id fun q=>by have:=X.lt q;omega);have a4:∀j,G2 j->H6.get j=H2.get j:=fun j E=>c6.get j (S.ap j E).1;have d2:=O.mono (H':=H6) (G':=fun j=>G2 j\/l7 v7 j) a4 (fun _ h=> .inl h);have f0:=y9 _ _ _ _ _ _ e9 a4 (fun j E=>(.inl E:G2 j\/l7 v7 j));have g6:=(a4 H.next (D.sub _ (.inr rfl))).trans g2;obtain⟨a7,c7,e7⟩:=X.slice;have g0:(Q4 x.2).length=x.2.length+1:=by rw[Q4];simp
 have d0:=W.gw;have c9:=W.gf;have a8:=O.gw;have a9:H3.get pw=cE [w1,w2,w3,w4] 1:=(s3.get pw (S.ap pw O.iw).1).trans a8;have d1:H4.get pw=cE [w1,w2,w3,w4] 1:=(s4.get pw (oN ((S.ap pw O.iw).1))).trans a9;have e5:=(S.ap nb hF).1;have b7:=(s3.get nb e5).trans hg;have f2:=(s4.get nb oM).trans b7;have q1:∀a b c d:Value,[a,b,c,d][1]?=some b:=fun _ _ _ _=>rfl;have q2:∀a b c d:Value,[a,b,c,d][2]?=some c:=fun _ _ _ _=>rfl;have i0:(0:Int)<=i:=oM;have il:(i:Int)<s.vals.length:=oM;have f8:(i:Int).toNat=i:=tN i;have bi:decide ((i:Int)=s.attrs.length)=false:=decide_eq_false oM;have f4:((i:Int)+1)=((i+1:Nat):Int):=oM;have a5:∀Hx:N7,D7 prog .len [97] [v7] Hx=some (.int .i64 ((Q4 x.2).length:Int),none):=fun Hx=>by
  rw[e7];exact J1 bU trivial
 subst c8;rw[j7 KT rfl _ sM];refine J30 ar b0.symm d0 q1 q2 ea e3 bi g1 f7 c9 f4 e6 f3 a8 f8 hg c0 b3 b8 a9 b7 b1.symm d1 f2 hf e1 b9 a5 @wrap_small ?_;refine j8 (F:=fun z=>Ret (u5 _ _ _ (inBlock 0 z)) _ _) (EH x.1 x.2 r ih H6 pw po pf H.next i (fun j=>G2 j\/l7 v7 j) s w1 w2 w3 w4 u2 J e a7 c7 (Q4 x.2) d2 a1.ap oM f0 (.inl (D.sub _ (.inr rfl))) g6 (by rw[<-e7];exact X.frz fun b hb=> .inr hb) oM oM b4 oM hn oM (l++S3 (x::r) e) (Q4 x.2).length _ _ ⟨0,_,u2,l++S3 r e,rfl,oM,rfl,rfl,rfl,rfl,e7,rfl,rfl,a1,dH.refl _ _ _ _,(.inl rfl),by rw[List.drop_zero,S3,List.append_assoc],by rw[List.length_append];omega⟩) ?_;rintro o e' H8 ⟨ho,G8,w8,d5,d9,f5⟩;refine J1 ho ?_;exact tz f6 (fun b hb=>hO.own.lt hb) hS d6 d5 ((D.trans d8).trans d9) f5 c4
theorem tw:∀r,mm r
 |[]=>MS
 |x::r=>MT x r (tw r)
def Q9:List (List ByteArray)->Nat
 |[]=>1
 |v::r=>(v.length+2)*Q9 r
theorem cI:∀r,1<=Q9 r
 |[]=>Nat.le_refl 1
 |v::r=>Nat.mul_pos oM (cI r)
theorem fQ{α β:Type}(f:α->List β)(k:Nat)(l:List α)(h:∀x∈l,(f x).length=k):(l.flatMap f).length=l.length*k:=by
 induction l with
 |nil=>simp
 |cons x l z=>rw[List.flatMap_cons,List.length_append,h x sM,z (fun y u=>h y (by simp [u])),List.length_cons,Nat.add_mul];omega
theorem qW(v:List ByteArray):(Q4 v).length=v.length+1:=by rw[Q4];simp
theorem jj:∀(r:List (NmQ×List ByteArray))(e:EvD),(S3 r e).length=Q9 (r.map (·.2))
 |[],e=>rfl
 |x::r,e=>by
  rw[S3,List.length_append,jj r e,fQ _ _ _ (fun v _=>jj r (atV x.1 e v)),qW,List.map_cons,Q9];rw[Nat.add_mul,Nat.add_mul,Nat.one_mul];omega
theorem Bc(x:NmQ×List ByteArray)(r:List (NmQ×List ByteArray))(l:List EvD):(bM x.1 (Q4 x.2) l).flatMap (S3 r)=l.flatMap (S3 (x::r)):=by
 induction l with
 |nil=>rfl
 |cons e l u=>
  rw[bM]at u ⊢;rw[List.flatMap_cons,List.flatMap_append,u,List.flatMap_cons]
  congr 1
  rw[uW,List.flatMap_cons,S3,List.flatMap_map]
theorem pZ:∀(r:List (NmQ×List ByteArray))(l:List EvD),l.length<=24->eH r l=if l.length*Q9 (r.map (·.2))>24 then none else some (l.flatMap (S3 r))
 |[],l,h=>by
  rw[eH,List.map_nil,Q9,Nat.mul_one,if_neg oM]
  congr 1
  have:(S3 []:EvD->List EvD)=fun e=>[e]:=by funext e;rfl
  rw[this];simp
 |x::r,l,h=>by
  rw[eH,List.map_cons,Q9,<-Nat.mul_assoc];have u:(bM x.1 (Q4 x.2) l).length=l.length*(x.2.length+2):=by rw[ko,qW]
  have z:=cI (r.map (·.2));by_cases D:l.length*(x.2.length+2)>24
  .rw[if_pos oM,if_pos (oN (Nat.mul_le_mul_left (l.length*(x.2.length+2)) z))]
  .rw[if_neg oM,pZ r _ oM,u,Bc]
def js(s:SpD):List EvD:=(s.names++[zNm (Q6 s.names)]).flatMap (fun n=>S3 (s.attrs.zip s.vals) (X5 n))++(s.texts++[dg (T8 s.texts)]).map dp
theorem qE(s:SpD)(P:Nat)(D:Q9 ((s.attrs.zip s.vals).map (·.2))=P):∀(z:List NmQ)(u:List EvD),fb s z u=if P>24 then(if z=[] then some u else none) else some (u++z.flatMap fun n=>S3 (s.attrs.zip s.vals) (X5 n))
 |[],u=>by rw[fb,if_pos rfl,List.flatMap_nil,List.append_nil];split<;>rfl
 |n::r,u=>by
  rw[fb,pZ _ _ sM,D];simp only[List.length_singleton,Nat.one_mul];by_cases h:P>24
  .rw[if_pos h,if_pos h,if_neg sM]
  .rw[if_neg h,if_neg h];simp only;rw[qE s P D r,if_neg h];simp
theorem lT:∀(u:List (List ByteArray))(n:Nat),(n*Q9 u<=24->rF u n=(n*Q9 u:Nat))/\(24<n*Q9 u->24<rF u n)
 |[],n=>by rw[Q9,Nat.mul_one,rF];exact⟨fun _=>rfl,fun h=>oM⟩
 |v::u,n=>by
  rw[Q9,rF,<-Nat.mul_assoc];have z:=cI u;have e:(n:Int)*((v.length:Int)+2)=((n*(v.length+2):Nat):Int):=sM;rw[e];have J:=Nat.mul_le_mul_left (n*(v.length+2)) z;obtain⟨D,E⟩:=lT u (n*(v.length+2));by_cases O:n*(v.length+2)<=25
  .have:min ((n*(v.length+2):Nat):Int) 25=((n*(v.length+2):Nat):Int):=oM;rw[this];exact⟨D,E⟩
  .have:min ((n*(v.length+2):Nat):Int) 25=((25:Nat):Int):=oM;rw[this];exact⟨fun q=>oM,fun _=>(lT u 25).2 oM⟩
theorem iC(s:SpD)(hl:s.vals.length=s.attrs.length):V4 s=if 24<mK s then none else some (js s):=by
 have O:(s.attrs.zip s.vals).map (·.2)=s.vals:=List.map_snd_zip oM;obtain⟨P,z⟩:=eY (Q9 s.vals);have D:=qE s P (by rw[O,z]) (s.names++[zNm (Q6 s.names)]) [];obtain⟨c1,c2⟩:=lT s.vals (s.names.length+1);rw[<-z]at c1 c2;have S:((s.names.length+1:Nat):Int)=(s.names.length:Int)+1:=oM;rw[S]at c1 c2;have hp:=cI s.vals;rw[<-z]at hp;have X:P<=(s.names.length+1)*P:=by rw[Nat.add_mul];omega
 rw[V4,D];by_cases E:P>24
 .rw[if_pos E,if_neg sM];have:=c2 oM;rw[if_pos (by unfold mK;omega)]
 .rw[if_neg E];have u:((s.names++[zNm (Q6 s.names)]).flatMap (fun n=>S3 (s.attrs.zip s.vals) (X5 n))).length=(s.names.length+1)*P:=by
   rw[fQ _ P _ (fun n _=>by rw[jj,O,z])];simp
  simp only[List.nil_append,List.length_append,List.length_map,List.length_singleton,u];by_cases W:(s.names.length+1)*P<=24
  .have:=c1 W;have U:mK s=(((s.names.length+1)*P+(s.texts.length+1):Nat):Int):=by unfold mK;rw[this];omega
   rw[U];by_cases J:(s.names.length+1)*P+(s.texts.length+1)>24
   .rw[if_pos J,if_pos oM]
   .rw[if_neg J,if_neg oM];rfl
  .have:=c2 oM;rw[if_pos oM,if_pos (by unfold mK;omega)]
theorem SpO.vals{H:N7}{lo:Nat}{O:Nat->Prop}{s:SpD}{w1 w2 w3 w4:Value}{us:LV}(h:SpO H lo O s w1 w2 w3 w4 us){G:Nat->Prop}(z:∀w∈w3::us,∀b,l7 w b->G b):SlF H G 1 (VlF H G) w3 s.vals:=by
 obtain⟨cs,W,hr⟩:=h.v;have e:=JC hr;subst e;have J:=h.len;rcases W with⟨U,h2,_⟩|⟨b,c,rfl,hg,_,_⟩
 .exact .inl ⟨U,List.length_eq_zero_iff.1 oM⟩
 .refine .inr ⟨b,0,c,by rw[J],.inr ⟨cs,true,z (sL b cs.length c) (List.mem_cons_self ..) b ⟨_,_,rfl⟩,hg,oM,fun i a D=>?_⟩⟩;have E:i<cs.length:=by rw[J];exact(gS D).1
  have S:cs[i]?=some cs[i]:=List.getElem?_eq_getElem E;refine⟨cs[i],?_,(h.u i _ a S D).frz fun b X=>z _ (by simp [mG S]) b X⟩;rw[Nat.zero_add,Nat.mul_one,List.drop_eq_getElem_cons E];rfl
theorem SpO.spr{H:N7}{lo:Nat}{O:Nat->Prop}{s:SpD}{w1 w2 w3 w4:Value}{us:LV}(h:SpO H lo O s w1 w2 w3 w4 us):SpR H H.next [w1,w2,w3,w4] s:=
 ⟨w1,w2,w3,w4,rfl,h.n.sl,h.a.sl,h.vals fun w u b z=>(h.lt b (h.o w (by simp only[List.mem_cons]at u ⊢;rcases u with q|q;exact .inr (.inr (.inl q));exact .inr (.inr (.inr (.inr q)))) b z)).2,h.t.sl⟩
theorem LB(H0:N7)(pw po pf:Nat)(J:Nat->Prop)(s:SpD)(w1 w2 w3 w4 w0:Value)(va:Option Addr)(ca:Nat)(u:List NmQ)(hC:vW H0 J pw pf (Bm pw po pf) s w1 w2 w3 w4)(a3:∀j,J j->j<H0.next/\j≠po/\¬l7 w0 j) (c9:po<H0.next) (hv:SlF H0 J 2 (w9 nmE) (.slice va u.length ca) u) (c8:u.length<=1000) (D:List EvD):
  ∀kk e H2,(∃(j:Nat)(G:Nat->Prop)(w:Value)(l:List EvD),kk=u.length-j/\j<=u.length/\e.get 4=pT pw/\e.get 5=pT po/\e.get 6=pT pf/\e.get 24= .slice va u.length ca/\e.get 25=iV u.length/\e.get 26=iV j/\
    fy H2 po G w l/\dH po J w0 H0 G w H2/\l++((u.drop j).flatMap fun n=>S3 (s.attrs.zip s.vals) (X5 n))=D/\D.length<=1000000)->
  w7 (LE prog t6 (.loop Nh) e H2) (fun o e H2=>o= .exit 0/\e.get 4=pT pw/\e.get 5=pT po/\∃(G:Nat->Prop)(w:Value),fy H2 po G w D/\dH po J w0 H0 G w H2):=by
 refine i8 _ _ ?_;rintro kk e H2 ⟨j,G,w,l,c4,S,f4,f5,f6,W,O,X,hO,hT,fu,a5⟩;rcases b:decide ((j:Int)<u.length)with _|_
 .have b2:=dF b;have:u.drop j=[]:=dN oM;rw[this,List.flatMap_nil,List.append_nil]at fu;refine J3 O X b ?_;exact i9 ⟨rfl,f4,f5,G,w,by rw[<-fu];exact hO,hT⟩
 have b2:=dT b;have fr:∀j,J j->H2.get j=H0.get j:=fun j S=>by have:=a3 j S;exact hT.but j this.1 this.2.1 this.2.2
 have nx:=hT.stay.next;have b7:∀j,J j->j<H2.next:=fun j S=>oN (a3 j S);obtain⟨n,nb,o,cs,own,c0,hx,b3,rfl,hF,hg,c6,a6,hc,rfl⟩:=hv.row (i:=j) oM;have b8:(j:Int).toNat=j:=tN j;rw[b3,List.flatMap_cons,<-List.append_assoc]at fu;have gv:=(fr nb hF).trans hg;obtain⟨Ha,a2,na,b5,-⟩:=pushE H2 (bC [.string eB,.string eB] 1);obtain⟨U,z⟩:=eY (Ha.put H2.next (bC (nmE n) 1));have n3:U.next=H2.next+1:=by rw[z,t5,na]
 have s3:i6 H2.next H2 U:=by rw[z,a2];exact(i6.push lR).trans (i6.put lR)
 have g3:U.get H2.next=cE (nmE n) 1:=by rw[z];exact j5 oM
 obtain⟨a8,b0⟩:=hO.push (G1:=G) s3 (fun _ h=>h) (fun j h=> .inl h);have a1:=hC.mono (H':=U) (G':=G) (fun j S=>(s3.get j (b7 j S)).trans (fr j S)) hT.sub;have a7:=a1.gf;have b4:EvF U G [iV 1,.string n.1,.string n.2,nS,.string eB] (X5 n):=⟨_,rfl,.inl ⟨rfl,rfl⟩⟩
 have c7:=hC.len;have c3:=hC.al;have b9:l.length+(S3 (s.attrs.zip s.vals) (X5 n)).length+((u.drop (j+1)).flatMap fun n=>S3 (s.attrs.zip s.vals) (X5 n)).length=D.length:=by rw[<-fu,List.length_append,List.length_append]
 obtain⟨_,h8,H8,E,a4,rfl,G8,w8,a9,b1,c5⟩:=tw (s.attrs.zip s.vals) U pw po pf 0 G s w1 w2 w3 w4 w l _ (X5 n) a1 a8 b4 rfl (by rw[List.length_zip];omega) oM (by show 0+_<=_;rw[List.length_zip];omega);have b6:ldC (some true) (some 2) 0 (nmE n)=some (.agg (nmE n).toArray):=rfl;have e0:((0:Nat):Int)=0:=rfl;rw[e0]at E;refine J17 f6 W O X b gv b8 a6 a2.symm b5 z.symm g3 b6 a7 E a4 @wrap_small ?_;exact i4 (kk-1) oM ⟨j+1,G8,w8,_,oM,oM,f4,f5,f6,W,O,rfl,a9,(hT.trans b0).trans b1,fu,a5⟩
theorem LC(H0:N7)(po:Nat)(E:Nat->Prop)(w0:Value)(va:Option Addr)(ca:Nat)(ts:List ByteArray)(a5:∀j,E j->j<H0.next/\j≠po/\¬l7 w0 j) (b6:po<H0.next) (hv:SlF H0 E 1 (w9 stE) (.slice va ts.length ca) ts) (b5:ts.length<=1000) (z:List EvD):
  ∀kk e H2,(∃(j:Nat)(G:Nat->Prop)(w:Value)(l:List EvD),kk=ts.length-j/\j<=ts.length/\e.get 5=pT po/\e.get 41= .slice va ts.length ca/\e.get 42=iV ts.length/\e.get 43=iV j/\
    fy H2 po G w l/\dH po E w0 H0 G w H2/\l++(ts.drop j).map dp=z/\z.length<=1000000)->
  w7 (LE prog t6 (.loop Ni) e H2) (fun o e H2=>o= .exit 2/\e.get 5=pT po/\∃(G:Nat->Prop)(w:Value),fy H2 po G w z/\dH po E w0 H0 G w H2):=by
 refine i8 _ _ ?_;rintro kk e H2 ⟨j,G,w,l,b3,hj,f5,O,D,S,hO,hT,U,W⟩;rcases b:decide ((j:Int)<ts.length)with _|_
 .have a6:=dF b;have:ts.drop j=[]:=dN oM;rw[this,List.map_nil,List.append_nil]at U;refine J3 D S b ?_;exact i9 ⟨rfl,f5,G,w,by rw[<-U];exact hO,hT⟩
 have a6:=dT b;have fr:∀j,E j->H2.get j=H0.get j:=fun j hj=>by have:=a5 j hj;exact hT.but j this.1 this.2.1 this.2.2
 have nx:=hT.stay.next;obtain⟨x,nb,o,cs,own,b1,hx,a7,rfl,hF,hg,b4,b0,hc,rfl⟩:=hv.row (i:=j) oM;have c0:=hc 0 oM;rw[Nat.add_zero]at c0;have a8:(j:Int).toNat=j:=tN j;rw[a7,List.map_cons,List.append_cons]at U;have gv:=(fr nb hF).trans hg;have go:=hO.g;obtain⟨a1,X⟩:=eY ([iV 2,.string eB,.string eB,nS,.string x]:LV);have he:EvF H2 G a1 (dp x):=⟨_,X,.inl ⟨rfl,rfl⟩⟩
 have a9:l.length+1+(ts.drop (j+1)).length=z.length:=by rw[<-U];simp;omega
 obtain⟨v',h',H3,r1,r2,g3,⟨a',c',e'⟩,a3,a4⟩:=hO.add he oM;obtain⟨J,u⟩:=eY (H2.push (bC a1 5));rw[<-u]at r1 r2;have b2:J.get po=cE [w] 1:=by rw[u,i7 (u7 go)];exact go
 have cu:v'.cells.toList=[v']:=by rw[e'];rfl
 have ou:Value.oneCell' v'=true:=by rw[e'];rfl
 have a2:bsA prog (some 51) H2 1 [(0,.agg #[iV 2,.string eB,.string eB,nS,.string x])]=some (sL H2.next 1 1,J):=by
  rw[u,X];simp only[C7,S9,C8];rfl
 refine J16 f5 O D S b gv a8 c0 go a2 r1 r2 g3 cu ou @wrap_small ?_;exact i4 (kk-1) oM ⟨j+1,G,v',_,oM,oM,f5,O,D,rfl,a3,hT.trans a4,U,W⟩
theorem mL{s:SpD}(h:¬24<mK s)(hl:s.vals.length=s.attrs.length):s.names.length<=24/\s.texts.length<=24/\s.attrs.length<=24/\(∀x∈s.vals,x.length<=24)/\(js s).length<=24:=by
 obtain⟨c1,c2⟩:=lT s.vals (s.names.length+1);have O:((s.names.length+1:Nat):Int)=(s.names.length:Int)+1:=oM;rw[O]at c1 c2;have W:(s.attrs.zip s.vals).map (·.2)=s.vals:=List.map_snd_zip oM;have E:=cI s.vals;have D:∀u:List (List ByteArray),u.length<=Q9 u/\∀x∈u,x.length<=Q9 u:=by
  intro u;induction u with
  |nil=>exact⟨Nat.zero_le _,fun x z=>by cases z⟩
  |cons v u J=>
   have E:=cI u;rw[Q9,List.length_cons];have h1:v.length+2<=(v.length+2)*Q9 u:=Nat.le_mul_of_pos_right _ E;have h2:2*Q9 u<=(v.length+2)*Q9 u:=Nat.mul_le_mul_right _ oM;refine⟨by have:=J.1;omega,fun x z=>?_⟩;rcases List.mem_cons.1 z with rfl|z
   .omega
   .have:=J.2 x z;omega
 obtain⟨X,S⟩:=D s.vals;have U:(s.names.length+1)*Q9 s.vals<=24:=by
  apply Classical.byContradiction;intro q;have:=c2 oM;apply h;unfold mK;omega
 have h3:Q9 s.vals<=(s.names.length+1)*Q9 s.vals:=by rw[Nat.add_mul];omega
 have h4:s.names.length+1<=(s.names.length+1)*Q9 s.vals:=Nat.le_mul_of_pos_right _ E;have h5:=c1 U;have h6:(s.names.length+1)*Q9 s.vals+s.texts.length+1<=24:=by unfold mK at h;omega
 refine⟨oM,oM,oM,fun x z=>by have:=S x z;omega,?_⟩;rw[js,List.length_append,fQ _ (Q9 s.vals) _ (fun n _=>by rw[jj,W])];simp only[List.length_append,List.length_map,List.length_singleton];omega
theorem Bl(l:List ByteArray):frS l eB []=dg (T8 l):=by
 have u:∀n,eB++dg n=dg n:=fun n=>by
  have z:=ct eB (dg n);exact rl (by rw[z];rfl)
 have D:frN l eB=T8 l:=by unfold frN T8;simp only[u]
 rw[frS,List.find?_nil];simp only[D,u]
theorem EG(H:N7)(lo k:Nat)(cs:LV)(q:Q)(p0:lo<=H.next)(hr:QR H lo k false cs q)(n8:OkD false q)(o9:nQ q<=1000):
  Ret (CL prog t6 31 [.agg cs.toArray] H) H (MP H (spQ q)):=by
 obtain⟨s,hs⟩:=eY (spQ q);have a5:=iC s (by rw[hs];exact(jM q).2.2.1);obtain⟨z1,z2,z3,z4,z5⟩:=jM q;rw[<-hs]at z1 z2 z3 z4 z5;rw[<-hs];have ac:cs.all oC=true:=F7 hr;have ldc:=N5 hr;have lc:=hr.len;rw[lc]at ldc;simp only[qSz,bF]at ldc lc;obtain⟨H1,f0,n1,g1,s1⟩:=pushF H (bC cs 1);have k1:H.next<=H1.low:=by rw[f0];exact lR
 obtain⟨H2,b0⟩:=eY (H1.push (bC cs 3));have n2:H2.next=H.next+2:=by rw[b0,i5,n1]
 have s2:i6 H.next H H2:=by rw[b0];exact s1.trans (i6.push oM)
 have m6:H.next<=H2.low:=by rw[b0];exact k1
 have d2:bsA prog (some 25) H1 1 [(0,.agg cs.toArray)]=some (sL H1.next 1 1,H2):=by
  rw[b0];cases k with
  |zero=>exact hr.elim
  |succ k=>obtain⟨_,_,_,_,rfl,_⟩:=hr.path;simp only[C7,aq,C8];rfl
 have o1:QsR H2 H2.next k false (sL H1.next 1 1) [q]:=by
  have hO:u6 H2 H1.next 3 (QR H2 H2.next k false) (sL H1.next 1 1) [q]:=by
   rw[b0];exact u6.fresh rfl lR (D2.one lc (by rw[<-b0];exact hr.mono (fun j u=>s2.get j oM) oM))
  exact hO.sl
 obtain⟨wv,h3,S,c3,d5,w1,w2,w3,w4,us,O,rfl,E,g6⟩:=MB H2 H2.next k _ [q] lR o1 (by rw[nL,nL];omega) sM;have l1:(fsL false [q]).foldl L7 ⟨[],[],[],[]⟩=s:=by rw[fsL,fsL,List.append_nil,yD q n8,hs]
 rw[l1]at E;have n3:=g6.next;obtain⟨a1,b1,e1⟩:=E.n.slice;obtain⟨a2,b2,e2⟩:=E.a.slice;obtain⟨a3,b3,e3⟩:=E.v.slice;obtain⟨a4,b4,e4⟩:=E.t.slice;obtain⟨J,U⟩:∃r,r=[w1,w2,w3,w4]:=eX;have ar:J.all oC=true:=by rw[U,e1,e2,e3,e4];rfl
 have lr:J.length=4:=by rw[U];rfl
 have k3:ldC (some true) (some 4) 0 J=some (.agg J.toArray):=by rw[U];rfl
 have q0:J[0]?=some w1:=by rw[U];rfl
 have q3:J[3]?=some w4:=by rw[U];rfl
 have h6:(#[w1,w2,w3,w4]:Array Value)=J.toArray:=by rw[U]
 rw[h6]at c3;obtain⟨zz,g2⟩:=eY ([nS,nS,nS,nS]:LV);have lz:zz.length=4:=by rw[g2];rfl
 have k7:splice zz 0 J=J:=x9 _ _ (by rw[lr,lz]);obtain⟨K3,b9,-,i3,-⟩:=pushE S (bC zz 1);obtain⟨W,b7⟩:=eY (K3.put S.next (bC J 1));have n4:W.next=S.next+1:=by rw[b7,t5,b9,i5]
 have d0:i6 S.next S W:=by rw[b7,b9];exact(i6.push lR).trans (i6.put lR)
 have g4:W.get S.next=cE J 1:=by rw[b7];exact j5 (by rw[b9,i5];omega)
 have e5:=(E.spr).mono (H':=W) (fun j u=>d0.get j u) lR;rw[<-U]at e5;have j3:=GR W S.next J s oM e5 oM oM (fun x hx=>by have:=z4 x hx;omega) oM;have o6:i6 H.next H W:=(s2.trans (g6.weaken oM)).trans (d0.weaken oM);have m7:H.next<=W.low:=((g6.weaken (show H.next<=H2.next from oM)).trans (d0.weaken oM)).low m6;rw[j7 KQ rfl _ sM];rcases b:decide ((24:Int)<mK s)with _|_
 .have D:=dF b;rw[if_neg D]at a5;obtain⟨y1,y4,y2,y3,y5⟩:=mL D z3;obtain⟨H5,c7⟩:=eY (W.push (bC [nS] 1));have n5:H5.next=S.next+2:=by rw[c7,i5,n4]
  obtain⟨H6,c8,-,l3,-⟩:=pushE H5 (bC [.nilFunc] 1);have n6:H6.next=S.next+3:=by rw[c8,i5,n5]
  obtain⟨H7,b8⟩:=eY (H6.put H5.next (bC [Bm S.next W.next H5.next] 1));have n7:H7.next=S.next+3:=by rw[b8,t5,n6]
  have d1:i6 W.next W H7:=by rw[b8,c8,c7];exact((i6.push lR).trans (i6.push (by rw[i5];omega))).trans (i6.put (by rw[i5];omega))
  have e8:=(d1.get S.next oM).trans g4;have l5:H7.get H5.next=cE [Bm S.next W.next H5.next] 1:=by rw[b8];exact j5 oM
  have l6:H7.get W.next=cE [nS] 1:=by
   rw[b8,j6 oM,c8,i7 oM,c7];exact j9
  have o7:i6 S.next S H7:=d0.trans (d1.weaken oM);have c4:SpO H7 H2.next O s w1 w2 w3 w4 us:=E.keep (fun j u=>o7.get j (E.lt j u).2) (fun _ h=>h) (fun b D=>by have:=E.lt b D;omega) lR;have inl:∀w∈w1::w2::w3::w4::us,∀b,l7 w b->H2.next<=b/\b<S.next:=fun w X b D=>E.lt b (E.o w X b D);have d9:=It H7 H7.next w1 s.names lR c4.n.sl oM;obtain⟨nm,g0⟩:=eY (zNm (Q6 s.names));rw[<-g0]at d9;obtain⟨v9,h9,H9,j1,d6,f3,a7⟩:=c4.n.push1F (P:=prog) (t:=95) (cs:=nmE nm) (a:=nm) (by exact sV.2.2.2.2.2.2) dP.1 dP.2.1 dP.2.2.1 oM oM rfl rfl oM oM;obtain⟨H8,f1⟩:=eY (H7.push (bC (nmE nm) 2));rw[<-f1]at j1 d6;have l8:H8.get S.next=cE J 1:=by rw[f1,i7 oM];exact e8
  have n9:=a7.next;have g9:bsA prog (some 48) H7 1 [(0,.agg (nmE nm).toArray)]=some (sL H7.next 1 1,H8):=by
   rw[f1];simp only[C7,dP,C8];rfl
  obtain⟨a9,c9,e9⟩:=f3.slice;have f8:∀Hx:N7,D7 prog .len [95] [v9] Hx=some (.int .i64 ((s.names++[nm]).length:Int),none):=fun Hx=>by
   rw[e9];exact J1 sV trivial
  have g5:∀j,¬(H2.next<=j/\j<S.next)->¬l7 w1 j:=fun j u q=>u (inl w1 sM j q);have c6:∀j,j<H7.next->¬l7 w1 j->H9.get j=H7.get j:=a7.but;have h8:H9.get S.next=cE J 1:=(c6 _ oM (g5 _ oM)).trans e8;have m0:=(c6 H5.next oM (g5 _ oM)).trans l5;have m1:=(c6 W.next oM (g5 _ oM)).trans l6;have k8:∀(i:Nat)(w:Value),(w1::w2::w3::w4::us)[i]?=some w->i≠0->∀j,l7 w j->¬l7 w1 j:=fun i w X hi j u q=>E.ap i 0 w w1 X rfl hi j u q;have o5:∀w∈w1::w2::w3::w4::us,∀b,l7 w b->b<H7.next:=fun w X b D=>oN (inl w X b D);obtain⟨G0,a6⟩:=eY (fun j=>(∃w∈w2::w3::us,l7 w j)\/j=S.next\/j=H5.next\/l7 v9 j:Nat->Prop);have e6:∀b,l7 v9 b->b<H9.next/\b≠W.next/\¬(S.next<=b/\b<H7.next):=fun b D=>by
   have h1:=f3.lt D;rcases a7.new b D with r|r
   .have:=inl w1 sM b r;omega
   .omega
  have g8:∀w∈w2::w3::us,w∈w1::w2::w3::w4::us:=fun w X=>by
   simp only[List.mem_cons]at X ⊢;rcases X with h|h|h
   .exact .inr (.inl h)
   .exact .inr (.inr (.inl h))
   .exact .inr (.inr (.inr (.inr h)))
  have d4:∀j,G0 j->j<H9.next/\j≠W.next/\¬l7 (nS) j:=fun j u=>by
   rw[a6]at u;refine⟨?_,?_,B8 j⟩
   .rcases u with⟨w,X,u⟩|u|u|u
    .have:=inl w (g8 w X) j u;omega
    .omega
    .omega
    .exact(e6 j u).1
   .rcases u with⟨w,X,u⟩|u|u|u
    .have:=inl w (g8 w X) j u;omega
    .omega
    .omega
    .exact(e6 j u).2.1
  have g7:∀w∈w2::w3::w4::us,∀b,l7 w b->H9.get b=H7.get b:=fun w X b D=>by
   have hm:w∈w1::w2::w3::w4::us:=List.mem_cons_of_mem _ X;obtain⟨i,hi⟩:=List.mem_iff_getElem?.1 X;exact c6 b (o5 w hm b D) (k8 (i+1) w hi oM b D)
  have o0:SlF H9 G0 2 (w9 nmE) w2 s.attrs:=(c4.a.same (g7 w2 sM)).frz fun b D=>by rw[a6];exact .inl ⟨w2,by simp,D⟩
  have o3:SlF H9 G0 1 (VlF H9 G0) w3 s.vals:=by
   have h0:=c4.vals (G:=fun j=>∃w∈w3::us,l7 w j) (fun w X b D=>⟨w,X,D⟩);have up:∀j,(∃w∈w3::us,l7 w j)->G0 j:=fun j⟨w,X,u⟩=>by rw[a6];exact .inl ⟨w,List.mem_cons_of_mem _ X,u⟩
   have sm:∀j,(∃w∈w3::us,l7 w j)->H9.get j=H7.get j:=fun j⟨w,X,u⟩=>g7 w (by
    rcases List.mem_cons.1 X with h|h
    .simp [h]
    .simp [h]) j u
   exact h0.mono sm up fun _ _ h=>h.mono sm up
  have m4:vW H9 G0 S.next H5.next (Bm S.next W.next H5.next) s w1 w2 w3 w4:=⟨by rw[h8,U],m0,by rw[a6];exact .inr (.inl rfl),by rw[a6];exact .inr (.inr (.inl rfl)),o0,o3,z3,oM,fun x hx=>by have:=y3 x hx;omega⟩
  have m5:fy H9 W.next G0 (nS) []:=⟨m1,u6.nil,d4⟩
  have m9:((s.names++[nm]).flatMap fun n=>S3 (s.attrs.zip s.vals) (X5 n)).length<=24:=by
   rw[g0];have:=z5;have:=y5;rw[js,List.length_append]at this;omega
  refine J30 ac f0.symm g1 ldc d2 c3 d5 g2.symm b9.symm i3 lr lz ar k7 b7.symm g4 k3 j3 b c7.symm c8.symm l3 b8.symm e8 q0 d9 g9 l8 j1 (aI d6 f8) ?_;refine j8 (F:=fun z=>Ret (u5 _ _ _ (u9 (inBlock 0 z) _)) _ _) (LB H9 S.next W.next H5.next G0 s w1 w2 w3 w4 (nS) a9 c9 (s.names++[nm]) m4 d4 oM (by rw[<-e9];exact f3.frz fun b D=>by rw[a6];exact .inr (.inr (.inr D))) (by simp;omega) ((s.names++[nm]).flatMap fun n=>S3 (s.attrs.zip s.vals) (X5 n)) (s.names++[nm]).length _ _ ⟨0,G0,nS,[],rfl,oM,rfl,rfl,rfl,e9,rfl,rfl,m5,dH.refl _ _ _ _,rfl,oM⟩) ?_;rintro o e' HA ⟨ho,k4,k5,GA,wA,c0,b6⟩;have nA:=b6.stay.next;have h7:∀j,j<H9.next->j≠W.next->HA.get j=H9.get j:=fun j u h=>b6.but j u h (B8 j);have i1:HA.get S.next=cE J 1:=(h7 _ oM oM).trans h8;have i0:=c0.g;have l4:∀b,l7 w4 b->H2.next<=b/\b<S.next:=fun b D=>inl w4 sM b D;have j0:u6 HA H2.next 1 (w9 stE) w4 s.texts:=(c4.t.same (g7 w4 sM)).same fun b D=>h7 b (oN (l4 b D)) (oN (l4 b D));have f6:=fresh HA HA.next w4 (nS) s.texts eB [] lR j0.sl (jL ..) oM (by decide) (by decide);rw[Bl]at f6;obtain⟨fs,j4⟩:=eY (dg (T8 s.texts));rw[<-j4]at f6;obtain⟨vC,hc,HC,j2,d8,f4,a8⟩:=j0.push1F (P:=prog) (t:=97) (cs:=[.string fs]) (a:=fs) (by exact bU.2.2.2.2.2.2) ty9.1 ty9.2.1 ty9.2.2.1 oM oM rfl rfl oM oM;obtain⟨HB,f2⟩:=eY (HA.push (bC [.string fs] 1));rw[<-f2]at j2 d8;have m2:HB.get S.next=cE J 1:=by rw[f2,i7 oM];exact i1
  have nC:=a8.next;have k2:=u7 i0;have g3:∀j,GA j->¬l7 w4 j:=fun j u q=>by
   have h4:=l4 j q;rcases b6.new j u with r|r
   .rw[a6]at r;rcases r with⟨w,X,r⟩|r|r|r
    .obtain⟨i,hi⟩:=List.mem_iff_getElem?.1 (g8 w X);by_cases k0:i=3
     .subst k0;have:w=w4:=(Option.some.inj hi).symm;subst this;obtain⟨i2,f7⟩:=List.mem_iff_getElem?.1 X;rcases i2 with _|_|i2
      .exact E.ap 1 3 w2 w rfl rfl oM j (by rw[show w2=w from Option.some.inj f7];exact r) q
      .exact E.ap 2 3 w3 w rfl rfl oM j (by rw[show w3=w from Option.some.inj f7];exact r) q
      .exact E.ap (i2+4) 3 w w f7 rfl oM j r q
     .exact E.ap i 3 w w4 hi rfl k0 j r q
    .omega
    .omega
    .rcases a7.new j r with r|r
     .exact E.ap 0 3 w1 w4 rfl rfl oM j r q
     .omega
   .omega
  have e7:∀j,j<HA.next->¬l7 w4 j->HC.get j=HA.get j:=a8.but;have c5:∀b,l7 wA b->H9.next<=b/\b<HA.next:=fun b D=>by
   have h1:=c0.own.lt D;rcases b6.neww b D with r|r
   .exact(B8 b r).elim
   .omega
  have o8:∀b,l7 vC b->b<HC.next/\b≠W.next/\¬l7 wA b:=fun b D=>by
   have h1:=f4.lt D;refine⟨h1.2,?_,fun q=>?_⟩
   .rcases a8.new b D with r|r
    .have:=l4 b r;omega
    .omega
   .have h2:=c5 b q;rcases a8.new b D with r|r
    .have:=l4 b r;omega
    .omega
  have d3:fy HC W.next (fun j=>GA j\/l7 vC j) wA ((s.names++[nm]).flatMap fun n=>S3 (s.attrs.zip s.vals) (X5 n)):=by
   refine⟨(e7 _ k2 (fun q=>by have:=l4 _ q;omega)).trans i0,(c0.own.same fun b D=>e7 b (c5 b D).2 (fun q=>by have:=l4 b q;have:=c5 b D;omega)).imp fun cs a h=>y9 _ _ _ _ _ _ h (fun j u=>e7 j (c0.ap j u).1 (g3 j u)) (fun _ h=> .inl h),fun j u=>?_⟩;rcases u with u|u
   .have:=c0.ap j u;exact⟨oM,this.2⟩
   .exact o8 j u
  obtain⟨aC,cC,eC⟩:=f4.slice;have f9:∀Hx:N7,D7 prog .len [97] [vC] Hx=some (.int .i64 ((s.texts++[fs]).length:Int),none):=fun Hx=>by
   rw[eC];exact J1 bU trivial
  have h5:bsA prog (some 9) HA 1 [(0,.string fs)]=some (sL HA.next 1 1,HB):=by
   rw[f2];simp only[C7,ty9,C8];rfl
  have k9:((s.names++[nm]).flatMap fun n=>S3 (s.attrs.zip s.vals) (X5 n))++(s.texts++[fs]).map dp=js s:=by rw[js,g0,j4]
  refine J10 ho k4 i1 q3 f6 h5 m2 j2 d8 f9 ?_;refine j8 (F:=fun z=>Ret (u5 _ _ _ (u9 (inBlock 2 z) _)) _ _) (LC HC W.next (fun j=>GA j\/l7 vC j) wA aC cC (s.texts++[fs]) d3.ap oM (by rw[<-eC];exact f4.frz fun b D=> .inr D) (by simp;omega) (js s) (s.texts++[fs]).length _ _ ⟨0,_,wA,_,rfl,oM,k5,eC,rfl,rfl,d3,dH.refl _ _ _ _,k9,oM⟩) ?_;rintro o2 e2 HD ⟨n0,o4,GD,wD,b5,f5⟩;have m3:=b5.g;have nD:=f5.stay.next;have k6:i6 H.next H HD:=((((o6.trans (d1.weaken oM)).trans (a7.stay.weaken oM)).trans (b6.stay.weaken oM)).trans (a8.stay.weaken oM)).trans (f5.stay.weaken oM);have m8:H.next<=HD.low:=(((((d1.weaken (show H.next<=W.next from oM)).trans (a7.stay.weaken oM)).trans (b6.stay.weaken oM)).trans (a8.stay.weaken oM)).trans (f5.stay.weaken oM)).low m7;refine J3 n0 o4 m3 ?_;refine dI (fun hc=>?_) ⟨_,_,rfl,.inr ⟨_,a5,rfl,SlF.mono (b5.own.frz fun b D=>(b5.own.lt D).2) (fun _ _=>rfl) (fun j u=>u) (fun _ _ h=>y9 _ _ _ _ _ _ h (fun _ _=>rfl) fun j u=>(b5.ap j u).1)⟩,k6.ret m8⟩;obtain⟨da,dc,ed⟩:=b5.own.slice;obtain⟨u1,u2⟩:=bG b5.own (by rw[ed]at hc ⊢;exact hc);exact⟨_,_,rfl,.inr ⟨_,a5,rfl,by rw[u1,u2];exact .inl ⟨rfl,rfl⟩⟩,i6.refl _ _⟩
 .have D:=dT b;rw[if_pos D]at a5;refine J19 ac f0.symm g1 ldc d2 c3 d5 g2.symm b9.symm i3 lr lz ar k7 b7.symm g4 k3 j3 b ?_;exact⟨_,none,H,rfl,rfl,_,_,rfl,.inl ⟨a5,rfl,rfl⟩,i6.refl _ _⟩
structure ReD where
 strat:StD
 labels:List EvD
 sorts:List SoD
 size:List Int
 how:List (Int×Int×Int)
def knB(n:Nat)(k:Int):Bool:=decide (0<=k)&&decide (k<n)
def R5(so:List SoD)(kind f n:Int):Bool:=knB so.length f&&knB so.length n&&(!decide (kind=2)||(decide (f=0)&& !((so.getD n.toNat (false,false,eB)).2.1)))
theorem zA(H:N7)(D:Nat)(u:LV)(own:Bool)(sz:Nat)(J:H.get D=some (.cells u own sz))(sa:Option Addr)(n c:Nat)(E:u[9]?=some (.slice sa n c))(k:Int):CL prog t6 70 [pT D,iV k] H=some (.bool (knB n k),none):=by
 have z:N7.get ⟨H.bs,H.next⟩ D=some (.cells u own sz):=J;rw[j7 QU rfl _ sM,knB];rcases b:decide ((0:Int)<=k)with _|_
 .exact J1 b trivial
 .exact J3 b z E trivial
theorem ET(H:N7)(rb:Nat)(O:LV)(own:Bool)(sz:Nat)(hg:H.get rb=some (.cells O own sz))(D:List SoD)(v:Value)(hv:SlI H H.next 3 (w9 soE) v D)(h9:O[9]?=some v)(el:LV)(e:EvD)(hl:el.length=5)(W:el.all oC=true)(U:el[0]?=some (.int .i64 e.kind))(f n:Int):
  CL prog t6 40 [pT rb,.agg el.toArray,iV f,iV n] H=some (.bool (R5 D e.kind f n),none):=by
 obtain⟨sa,c,rfl⟩:=hv.slice;obtain⟨H1,u,-,S,hS⟩:=pushF H (bC el 1);have a3:H.next<=H1.low:=by rw[u];exact lR
 have X:=(hS.get rb (u7 hg)).trans hg;have z:=zA H1 rb O own sz X sa D.length c h9 f;have J:=zA H1 rb O own sz X sa D.length c h9 n;rw[j7 QL rfl _ sM,R5];rcases b:decide (e.kind=2)with _|_
 .rcases b1:knB D.length f with _|_
  .rw[b1]at z;exact J6 W u.symm S U b z trivial
  .rw[b1]at z;rcases b2:knB D.length n with _|_
   .rw[b2]at J;exact J7 W u.symm S U b z J trivial
   .rw[b2]at J;exact J7 W u.symm S U b z J trivial
 .rcases b1:knB D.length f with _|_
  .rw[b1]at z;exact J6 W u.symm S U b z trivial
  .rw[b1]at z;rcases b2:knB D.length n with _|_
   .rw[b2]at J;exact J7 W u.symm S U b z J trivial
   .have E:=b2;simp only[knB,Bool.and_eq_true,decide_eq_true_eq]at E;rw[b2]at J;rcases b3:decide (f=0)with _|_
    .exact J8 W u.symm S U b z J b3 trivial
    .have hn:(n.toNat:Int)=n:=Int.toNat_of_nonneg E.1;have a2:n.toNat<D.length:=oM;obtain⟨y,nb,o,cs,ow,a5,hx,hd,e0,hF,a1,a6,a4,hc,rfl⟩:=hv.row (i:=n.toNat) a2;subst e0;have c1:=hc 1 oM;have gn:=(hS.get nb hF).trans a1;have hy:(D.getD n.toNat (false,false,eB)).2.1=y.2.1:=by rw[List.getD_eq_getElem?_getD,hx];rfl
     have y1:(soE y)[1]?=some (.bool y.2.1):=rfl;rw[y1]at c1;have p0:(0:Int)<=n:=E.1;have p1:n<D.length:=E.2;exact J13 W u.symm S U b z J b3 X h9 gn c1 hy trivial
def mx2(a b:Int):Int:=if a<b then b else a
def mxL:List Int->Int
 |[]=>0
 |x::l=>l.foldl mx2 x
theorem ES(H0:N7)(W:Option Addr)(ca:Nat)(l:List Int)(hv:SlI H0 H0.next 1 (w9 inE) (.slice W l.length ca) l)(hn:l.length<=100000)(r:Int):
  ∀E e H2,(∃(i:Nat)(m:Int),E=l.length-i/\1<=i/\i<=l.length/\e.get 0= .slice W l.length ca/\e.get 3=iV m/\e.get 4=iV i/\H2=H0/\(l.drop i).foldl mx2 m=r)->
  w7 (LE prog t6 (.loop NN) e H2) (fun o e H2=>H2=H0/\o= .exit 0/\e.get 3=iV r):=by
 refine i8 _ _ ?_;rintro E e H2 ⟨i,m,hk,a1,hi,z,O,S,rfl,u⟩;rcases b:decide ((i:Int)<l.length)with _|_
 .have D:=dF b;have:l.drop i=[]:=dN oM;rw[this,List.foldl_nil]at u;refine J3 z S b ?_;exact i9 ⟨rfl,rfl,by rw[<-u];exact O⟩
 have D:=dT b;obtain⟨y,nb,o,cs,own,el,hx,hd,rfl,a3,hg,a2,U,X,rfl⟩:=hv.row (i:=i) oM;have nt:(i:Int).toNat=i:=tN i;have J:=X 0 oM;rw[Nat.add_zero]at J;rw[hd,List.foldl_cons]at u;have hm:∀Hx,D7 prog .max [3,3] [iV m,iV y] Hx=some (.int .i64 (mx2 m y),none):=fun Hx=>by
  simp [D7,iE,mx2]
 refine J9 z O S b hg nt J hm @wrap_small ?_;exact i4 (E-1) oM ⟨i+1,mx2 m y,oM,oM,oM,z,rfl,rfl,rfl,u⟩
theorem PX(H:N7)(v:Value)(l:List Int)(D:SlI H H.next 1 (w9 inE) v l)(J:1<=l.length)(hn:l.length<=100000):CL prog t6 60 [v] H=some (.int .i64 (mxL l),none):=by
 obtain⟨va,ca,rfl⟩:=D.slice;obtain⟨y,U,o,cs,own,el,S,hd,rfl,a2,hg,a1,O,hc,rfl⟩:=D.row (i:=0) oM;have E:=hc 0 oM;simp only[Nat.zero_mul,Nat.add_zero]at E;have b:decide ((l.length:Int)<1)=false:=decide_eq_false oM;have u:N7.get ⟨H.bs,H.next⟩ U=some (.cells cs own 1):=hg;have W:mxL l=(l.drop 1).foldl mx2 y:=by
  cases l with
  |nil=>simp at J
  |cons x l=>simp at S;rw[<-S];rfl
 rw[j7 Pu rfl _ sM];refine J3 b u E ?_;refine j8 (F:=fun z=>u5 _ _ _ (u9 (inBlock 0 z) _)=_) (ES ⟨H.bs,H.next⟩ (some ⟨U,o,none⟩) ca l (D.mono (fun _ _=>rfl) lR iF) hn (mxL l) (l.length-1) _ _ ⟨1,y,rfl,lR,J,rfl,rfl,rfl,rfl,W.symm⟩) ?_;rintro o' e' H' ⟨hH,ho,X⟩;exact J3 ho hH X trivial
theorem Md(H:N7)(E:Nat)(u:LV)(own:Bool)(sz:Nat)(U:H.get E=some (.cells u own sz))(v:Value)(l:List Int)(hv:SlI H H.next 1 (w9 inE) v l)(z:u[10]?=some v)(J:1<=l.length)(X:l.length<=100000)(size:Int)(O:0<=mxL l)(S:mxL l<=1000):
  CL prog t6 33 [pT E,iV size] H=some (.bool (decide (size<=2*mxL l+1)),none):=by
 have W:=PX ⟨H.bs,H.next⟩ v l (hv.mono (fun _ _=>rfl) lR iF) J X;have D:N7.get ⟨H.bs,H.next⟩ E=some (.cells u own sz):=U;rw[j7 QJ rfl _ sM];exact J4 D z W @wrap_small trivial
theorem wX(H:N7)(u:LV)(E:List SoD)(v:Value)(hv:SlI H H.next 3 (w9 soE) v E)(hl:u.length=12)(ha:u.all oC=true)(h9:u[9]?=some v)(hn:E.length<=1000)(x:SoD):
  CL prog t6 17 [.agg u.toArray,.agg (soE x).toArray] H=some (.int .i64 (ixG (fun y=>aP x y) E 0),none):=by
 obtain⟨U,D,S,-⟩:=pushF H (bC u 1);obtain⟨H2,z⟩:=eY (U.push (bC (soE x) 1));have J:i6 H.next H H2:=by rw[z,D];exact(i6.first H _).trans (i6.push (by rw[i5];exact Nat.le_succ _))
 have W:H2.get H.next=cE u 1:=by rw[z,i7 oM,D];exact j9
 have X:H2.get (H.next+1)=cE (soE x) 1:=by rw[z,<-S];exact j9
 have O:H.next<=H2.low:=by rw[z,D];exact lR
 have hr:ldC (some true) (some 3) 0 (soE x)=some (.agg (soE x).toArray):=rfl;have hf:=Eb H2 H.next v E x (oN (J.next)) (hv.mono (fun j hj=>J.get j hj) lR iF) oM;rw[j7 QC rfl _ sM];exact J9 ha D.symm S z.symm W X h9 hr hf trivial
structure U0(Rp Rt:LV->Q->Prop)(H:N7)(rb lw:Nat)(G:Nat->Prop)(r:ReD)(rs:LV)(vl w1 w2 w3:Value):Prop where
 g:H.get rb=cE (rs++[vl,w1,w2,w3]) 1
 st:StF H G Rp Rt rs r.strat
 lb:SlF H G 5 (EvF H G) vl r.labels
 so:u6 H lw 3 (w9 soE) w1 r.sorts
 sz:u6 H lw 1 (w9 inE) w2 r.size
 ho:u6 H lw 3 (w9 hoE) w3 r.how
 ap:bV [w1,w2,w3]
 fr:∀j,G j->j<H.next/\j≠rb/\∀w∈ [w1,w2,w3],¬l7 w j
 nb:lw<=rb/\∀w∈ [w1,w2,w3],¬l7 w rb
structure aN(rb lw:Nat)(W0:LV)(H0:N7)(W:LV)(H:N7):Prop where
 but:∀j,j<H0.next->j≠rb->(∀w∈W0,¬l7 w j)->H.get j=H0.get j
 new:∀b,(∃w∈W,l7 w b)->(∃w∈W0,l7 w b)\/H0.next<=b
 stay:i6 lw H0 H
theorem aN.refl(rb lw:Nat)(W:LV)(H:N7):aN rb lw W H W H:=⟨fun _ _ _ _=>rfl,fun _ h=> .inl h,i6.refl _ _⟩
theorem aN.trans{rb lw:Nat}{z D E:LV}{H0 H1 H2:N7}(h:aN rb lw z H0 D H1)(k:aN rb lw D H1 E H2):aN rb lw z H0 E H2:=by
 have n1:=h.stay.next;refine⟨fun j U J O=>?_,fun b S=>?_,h.stay.trans k.stay⟩
 .rw[k.but j oM J (fun w W q=>by
   rcases h.new j ⟨w,W,q⟩with⟨X,u,r⟩|r
   .exact O X u r
   .omega),h.but j U J O]
 .rcases k.new b S with q|q
  .exact h.new b q
  .exact .inr oM
theorem aN.of{rb lw:Nat}{W:LV}{H H1:N7}(u:i6 H.next H H1)(h:lw<=H.next):aN rb lw W H W H1:=⟨fun j z _ _=>u.get j z,fun _ h=> .inl h,u.weaken h⟩
section
variable{Rp Rt:List Value->Q->Prop}{H H1:N7}{rb lw:Nat}{G:Nat->Prop}{r:ReD}{rs:List Value}{vl w1 w2 w3:Value}
theorem U0.inl(h:U0 Rp Rt H rb lw G r rs vl w1 w2 w3){w:Value}(D:w∈ [w1,w2,w3]){b:Nat}(u:l7 w b):lw<=b/\b≠rb/\b<H.next:=by
 have z:b≠rb:=fun q=>h.nb.2 w D (q▸u);simp only[List.mem_cons,List.not_mem_nil,or_false]at D;rcases D with rfl|rfl|rfl
 .exact⟨(h.so.lt u).1,z,(h.so.lt u).2⟩
 .exact⟨(h.sz.lt u).1,z,(h.sz.lt u).2⟩
 .exact⟨(h.ho.lt u).1,z,(h.ho.lt u).2⟩
theorem U0.rsl(h:U0 Rp Rt H rb lw G r rs vl w1 w2 w3):rs.length=8:=by
 obtain⟨D,E,J,z,rfl,_,_,_,u⟩:=h.st;have:=Tq u;simp [this]
theorem U0.at_(h:U0 Rp Rt H rb lw G r rs vl w1 w2 w3):(rs++[vl,w1,w2,w3])[8]?=some vl/\(rs++[vl,w1,w2,w3])[9]?=some w1/\(rs++[vl,w1,w2,w3])[10]?=some w2/\(rs++[vl,w1,w2,w3])[11]?=some w3:=by
 have:=h.rsl;refine⟨?_,?_,?_,?_⟩<;>rw[List.getElem?_append_right oM,this]<;>rfl
theorem U0.keep(h:U0 Rp Rt H rb lw G r rs vl w1 w2 w3)(u:i6 H.next H H1):U0 Rp Rt H1 rb lw G r rs vl w1 w2 w3:=by
 have D:=u7 h.g;have J:=u.next;have E:∀j,G j->H1.get j=H.get j:=fun j z=>u.get j (h.fr j z).1;exact⟨(u.get rb D).trans h.g,h.st.mono E (fun _ h=>h) iF iF,h.lb.mono E (fun _ h=>h) (fun _ _ q=>y9 _ _ _ _ _ _ q E (fun _ h=>h)),h.so.keep u,h.sz.keep u,h.ho.keep u,h.ap,fun j z=>by have:=h.fr j z;exact⟨oM,this.2⟩,h.nb⟩
end
def am(r:ReD)(x:SoD)(size:Int)(how:Int×Int×Int):ReD×Bool:=
 if(r.sorts.any fun y=>aP x y) then(r,true) else if(decide (24<(r.sorts.length:Int))||decide (200<size)) then(r,false) else({r with sorts:=r.sorts++[x],size:=r.size++[size],how:=r.how++[how]},true)
def JH(Rp Rt:LV->Q->Prop)(rb lw:Nat)(G:Nat->Prop)(rs:LV)(vl w1 w2 w3:Value)(H:N7)(r':ReD)(b:Bool):Value->N7->Prop:=fun v H'=>v= .bool b/\∃x1 x2 x3,U0 Rp Rt H' rb lw G r' rs vl x1 x2 x3/\aN rb lw [w1,w2,w3] H [x1,x2,x3] H'
theorem MR(Rp Rt:LV->Q->Prop)(H:N7)(rb lw:Nat)(G:Nat->Prop)(r:ReD)(rs:LV)(vl w1 w2 w3:Value)(hR:U0 Rp Rt H rb lw G r rs vl w1 w2 w3)(x:SoD)(size:Int)(how:Int×Int×Int)(i0:r.sorts.length<=1000)(j0:r.size.length<=1000)(j1:r.how.length<=1000):
  Ret (CL prog t6 62 [pT rb,.agg (soE x).toArray,iV size,.agg (hoE how).toArray] H) H (JH Rp Rt rb lw G rs vl w1 w2 w3 H (am r x size how).1 (am r x size how).2):=by
 obtain⟨H0,a6,n0,-⟩:=pushF H (bC (soE x) 1);obtain⟨H1,W⟩:=eY (H0.push (bC (hoE how) 1));have n1:H1.next=H.next+2:=by rw[W,i5,n0]
 have hS:i6 H.next H H1:=by rw[W,a6];exact(i6.first H _).trans (i6.push (by rw[i5];exact Nat.le_succ _))
 have g1:H1.get H.next=cE (soE x) 1:=by rw[W,i7 oM,a6];exact j9
 have g2:H1.get (H.next+1)=cE (hoE how) 1:=by rw[W,<-n0];exact j9
 have h9:H.next<=H1.low:=by rw[W,a6];exact lR
 have j3:=u7 hR.g;have u:=hR.keep hS;have a5:=u.g;have b7:=u.nb.1;obtain⟨q8,q9,f7,f8⟩:=u.at_;have a9:=hR.rsl;obtain⟨a4,b5⟩:=eY (rs++[vl,w1,w2,w3]);rw[<-b5]at a5 q8 q9 f7 f8;have b8:ldC (some true) (some 3) 0 (soE x)=some (.agg (soE x).toArray):=rfl;have e8:ldC (some true) (some 3) 0 (hoE how)=some (.agg (hoE how).toArray):=rfl;have hh:=PN H1 H1.next w1 r.sorts x lR u.so.sl oM;rw[j7 QS rfl _ sM];rcases b:(r.sorts.any fun y=>aP x y)with _|_
 .rw[b]at hh;rcases b2:decide (24<(r.sorts.length:Int))with _|_
  .rcases b3:decide (200<size)with _|_
   .have ha:am r x size how=({r with sorts:=r.sorts++[x],size:=r.size++[size],how:=r.how++[how]},true):=by rw[am,b,b2,b3];rfl
    rw[ha];obtain⟨v1,i1,K2,e4,b9,b4,D⟩:=u.so.push1F (P:=prog) (t:=36) (cs:=soE x) (a:=x) (by exact ME.2.2.2.2.2.2) CH.1 CH.2.1 CH.2.2.1 oM oM rfl rfl oM oM;obtain⟨K1,d4,-,-,s1⟩:=pushE H1 (bC (soE x) 3);rw[<-d4]at e4 b9;have m2:=D.next;have d0:∀j,l7 w1 j->¬l7 w2 j:=u.ap 0 1 w1 w2 rfl rfl oM;have d1:∀j,l7 w1 j->¬l7 w3 j:=u.ap 0 2 w1 w3 rfl rfl oM;have d2:∀j,l7 w2 j->¬l7 w3 j:=u.ap 1 2 w2 w3 rfl rfl oM;have l1:∀j,l7 w1 j->lw<=j/\j≠rb/\j<H1.next:=fun j X=>u.inl sM X;have l2:∀j,l7 w2 j->lw<=j/\j≠rb/\j<H1.next:=fun j X=>u.inl sM X;have l3:∀j,l7 w3 j->lw<=j/\j≠rb/\j<H1.next:=fun j X=>u.inl sM X;have f4:u6 K2 lw 1 (w9 inE) w2 r.size:=u.sz.same fun b z=>D.but b (l2 b z).2.2 (fun q=>d0 b q z);obtain⟨v2,i2,K4,e5,c0,b6,E⟩:=f4.push1F (P:=prog) (t:=29) (cs:=inE size) (a:=size) (by exact CE.2.2.2.2.2.2) ty3.1 ty3.2.1 ty3.2.2.1 oM oM rfl rfl oM oM;obtain⟨K3,d5,-,-,s3⟩:=pushE K2 (bC (inE size) 1);rw[<-d5]at e5 c0;have m4:=E.next;have e7:u6 K4 lw 3 (w9 hoE) w3 r.how:=(u.ho.same (H':=K2) fun b z=>D.but b (l3 b z).2.2 (fun q=>d1 b q z)).same fun b z=>E.but b (oN (l3 b z)) (fun q=>d2 b q z);obtain⟨v3,i3,K6,e6,c4,d8,U⟩:=e7.push1F (P:=prog) (t:=37) (cs:=hoE how) (a:=how) (by exact Qv.2.2.2.2.2.2) CG.1 CG.2.1 CG.2.2.1 oM oM rfl rfl oM oM;obtain⟨K5,d6,-,-,s5⟩:=pushE K4 (bC (hoE how) 3);rw[<-d6]at e6 c4;have m6:=U.next;have k1:K1.get rb=cE a4 1:=(s1.get rb oM).trans a5;have k2:K2.get rb=cE a4 1:=(D.but rb oM (fun q=>by have:=l1 rb q;omega)).trans a5;have k3:K3.get rb=cE a4 1:=(s3.get rb oM).trans k2;have k4:K4.get rb=cE a4 1:=(E.but rb oM (fun q=>by have:=l2 rb q;omega)).trans k2;have k5:K5.get rb=cE a4 1:=(s5.get rb oM).trans k4;have k6:K6.get rb=cE a4 1:=(U.but rb oM (fun q=>by have:=l3 rb q;omega)).trans k4;have nH:∀w∈ [w1,w2,w3],¬l7 w (H.next+1):=fun w hw q=>oN (hR.inl hw q);have p1:=(s1.get (H.next+1) oM).trans g2;have p2:=(D.but (H.next+1) oM (nH w1 sM)).trans g2;have p3:=(s3.get (H.next+1) oM).trans p2;have p4:=(E.but (H.next+1) oM (nH w2 sM)).trans p2;obtain⟨a1,c1,e1⟩:=b4.slice;obtain⟨a2,c2,e2⟩:=b6.slice;obtain⟨a3,c3,e3⟩:=d8.slice;have g5:v1.cells.toList=[v1]:=by rw[e1];rfl
    have h3:Value.oneCell' v1=true:=by rw[e1];rfl
    have g6:v2.cells.toList=[v2]:=by rw[e2];rfl
    have h4:Value.oneCell' v2=true:=by rw[e2];rfl
    have g7:v3.cells.toList=[v3]:=by rw[e3];rfl
    have h5:Value.oneCell' v3=true:=by rw[e3];rfl
    have f5:a4.length=12:=by rw[b5];simp [a9]
    obtain⟨J,c7⟩:=eY (rs++[vl,v1,w2,w3]);obtain⟨O,c8⟩:=eY (rs++[vl,v1,v2,w3]);obtain⟨a7,f0⟩:=eY (rs++[vl,v1,v2,v3]);have g8:J.length=12:=by rw[c7];simp [a9]
    have g9:O.length=12:=by rw[c8];simp [a9]
    have h6:splice a4 9 [v1]=J:=by show a4.set 9 v1=J;rw[b5,c7,List.set_append_right _ _ oM,a9];rfl
    have h7:splice J 10 [v2]=O:=by show J.set 10 v2=O;rw[c7,c8,List.set_append_right _ _ oM,a9];rfl
    have h8:splice O 11 [v3]=a7:=by show O.set 11 v3=a7;rw[c8,f0,List.set_append_right _ _ oM,a9];rfl
    obtain⟨K7,b0⟩:=eY (K6.put rb (bC J 1));have k7:K7.get rb=cE J 1:=by rw[b0];exact j5 oM
    have m7:K7.next=K6.next:=by rw[b0,t5]
    obtain⟨K8,b1⟩:=eY (K7.put rb (bC O 1));have k8:K8.get rb=cE O 1:=by rw[b1];exact j5 oM
    have m8:K8.next=K6.next:=by rw[b1,t5,m7]
    obtain⟨K9,a8⟩:=eY (K8.put rb (bC a7 1));have k9:K9.get rb=cE a7 1:=by rw[a8];exact j5 oM
    have m9:K9.next=K6.next:=by rw[a8,t5,m8]
    have g3:bsA prog (some 59) H1 1 [(0,.agg (soE x).toArray)]=some (sL H1.next 1 1,K1):=by
     rw[d4];simp only[C7,CH,C8];rfl
    have g0:bsA prog (some 3) K2 1 [(0,iV size)]=some (sL K2.next 1 1,K3):=by
     rw[d5];simp only[C7,ty3,C8];rfl
    have g4:bsA prog (some 56) K4 1 [(0,.agg (hoE how).toArray)]=some (sL K4.next 1 1,K5):=by
     rw[d6];simp only[C7,CG,C8];rfl
    have c5:∀Hx:N7,D7 prog .len [36] [w1] Hx=some (.int .i64 (r.sorts.length:Int),none):=fun Hx=>by
     obtain⟨aa,cc,ee⟩:=u.so.slice;rw[ee];exact J1 ME trivial
    have e9:∀j,j≠rb->K9.get j=K6.get j:=fun j X=>by rw[a8,j6 (fun q=>X q.symm),b1,j6 (fun q=>X q.symm),b0,j6 (fun q=>X q.symm)]
    have d3:∀j,j<H1.next->j≠rb->(∀w∈ [w1,w2,w3],¬l7 w j)->K9.get j=H1.get j:=fun j X h1 h2=>by
     rw[e9 j h1,U.but j oM (h2 w3 sM),E.but j oM (h2 w2 sM),D.but j X (h2 w1 sM)]
    have f6:∀b,l7 v1 b->¬l7 w2 b/\¬l7 w3 b:=fun b z=>by
     rcases D.new b z with q|q
     .exact⟨d0 b q,d1 b q⟩
     .exact⟨fun r=>by have:=l2 b r;omega,fun r=>by have:=l3 b r;omega⟩
    have h0:∀b,l7 v2 b->¬l7 w3 b:=fun b z=>by
     rcases E.new b z with q|q
     .exact d2 b q
     .exact fun r=>oN (l3 b r)
    have d9:i6 lw H1 K9:=by
     rw[a8,b1,b0];exact(((((D.stay.weaken oM).trans (E.stay.weaken oM)).trans (U.stay.weaken oM)).trans (i6.put b7)).trans (i6.put b7)).trans (i6.put b7)
    have f1:u6 K9 lw 3 (w9 soE) v1 (r.sorts++[x]):=b4.same fun b z=>by
     have:=b4.lt z;have c6:b≠rb:=by
      rcases D.new b z with q|q
      .exact(l1 b q).2.1
      .omega
     rw[e9 b c6,U.but b oM (f6 b z).2,E.but b oM (f6 b z).1]
    have f2:u6 K9 lw 1 (w9 inE) v2 (r.size++[size]):=b6.same fun b z=>by
     have:=b6.lt z;have c6:b≠rb:=by
      rcases E.new b z with q|q
      .exact(l2 b q).2.1
      .omega
     rw[e9 b c6,U.but b oM (h0 b z)]
    have f3:u6 K9 lw 3 (w9 hoE) v3 (r.how++[how]):=d8.same fun b z=>e9 b (by
      rcases U.new b z with q|q
      .exact(l3 b q).2.1
      .omega)
    have nw:∀b,(∃w∈ [v1,v2,v3],l7 w b)->(∃w∈ [w1,w2,w3],l7 w b)\/H1.next<=b:=fun b⟨w,hw,z⟩=>by
     simp only[List.mem_cons,List.not_mem_nil,or_false]at hw;rcases hw with rfl|rfl|rfl
     .exact(D.new b z).imp (fun q=>⟨w1,by simp,q⟩) id
     .exact(E.new b z).imp (fun q=>⟨w2,by simp,q⟩) (fun q=>oM)
     .exact(U.new b z).imp (fun q=>⟨w3,by simp,q⟩) (fun q=>oM)
    have f9:bV [v1,v2,v3]:=by
     have t1:bV [v1,w2,w3]:=u.ap.set (k:=0) (v:=v1) (n:=H1.next) rfl D.new fun y hy b z=>(u.inl hy z).2.2;have t2:bV [v1,v2,w3]:=t1.set (k:=1) (v:=v2) (n:=K2.next) rfl E.new fun y hy b z=>by
      simp only[List.mem_cons,List.not_mem_nil,or_false]at hy;rcases hy with rfl|rfl|rfl
      .exact(b4.lt z).2
      .have:=l2 b z;omega
      .have:=l3 b z;omega
     exact t2.set (k:=2) (v:=v3) (n:=K4.next) rfl U.new fun y hy b z=>by
      simp only[List.mem_cons,List.not_mem_nil,or_false]at hy;rcases hy with rfl|rfl|rfl
      .have:=b4.lt z;omega
      .exact(b6.lt z).2
      .have:=l3 b z;omega
    have sG:∀j,G j->K9.get j=H1.get j:=fun j X=>by have:=u.fr j X;exact d3 j this.1 this.2.1 this.2.2
    have S:U0 Rp Rt K9 rb lw G {r with sorts:=r.sorts++[x],size:=r.size++[size],how:=r.how++[how]} rs vl v1 v2 v3:=
     ⟨by rw[k9,f0],u.st.mono sG (fun _ h=>h) iF iF,u.lb.mono sG (fun _ h=>h) (fun _ _ q=>y9 _ _ _ _ _ _ q sG (fun _ h=>h)),f1,f2,f3,f9,fun j X=>by
      have h:=u.fr j X;refine⟨oM,h.2.1,fun w hw q=>?_⟩;rcases nw j ⟨w,hw,q⟩with⟨w',c9,r⟩|r
      .exact h.2.2 w' c9 r
      .omega,b7,fun w hw q=>by
      rcases nw rb ⟨w,hw,q⟩with⟨w',c9,r⟩|r
      .exact u.nb.2 w' c9 r
      .omega⟩
    refine J30 a6.symm n0 W.symm g1 g2 a5 q9 f7 f8 (aI b8 e8) (aI hh c5) (aI b2 b3) (aI g3 k1) (aI e4 b9) (aI k2 g0) (aI k3 p1) (aI p2 p3) (aI p4 e5) (aI c0 k4) (aI g4 k5) (aI e6 c4) (aI k6 g5) (aI h3 g6) (aI h4 g7) (aI h5 f5) (aI g8 g9) (aI h6 b0.symm) (aI k7 h7) (aI b1.symm k8) (aI h8 a8.symm) ?_;have j2:K9.low<=rb:=by rw[a8,A4];omega
    refine E1 (fun _ hl=>oM) ⟨rfl,v1,v2,v3,⟨S.g,S.st.mono (fun _ _=>rfl) (fun _ h=>h) iF iF,S.lb.mono (fun _ _=>rfl) (fun _ h=>h) (fun _ _ q=>y9 _ _ _ _ _ _ q (fun _ _=>rfl) (fun _ h=>h)),S.so.low _,S.sz.low _,S.ho.low _,S.ap,S.fr,S.nb⟩,fun j X h1 h2=>?_,fun b z=>(nw b z).imp id fun q=>oM,⟨?_,fun k hk q=>?_,fun j X=>?_⟩⟩
    .show K9.get j=H.get j;rw[d3 j oM h1 h2,hS.get j X]
    .show H.next<=K9.next;omega
    .have:=d9.lowAll k hk oM;show k<=min H.low K9.low;omega
    .show K9.get j=H.get j;rw[d9.get j X,hS.get j oM]
   .have ha:am r x size how=(r,false):=by rw[am,b,b2,b3];rfl
    rw[ha];obtain⟨a1,c1,e1⟩:=u.so.slice;rw[e1]at hh q9;refine J10 a6.symm n0 W.symm g1 a5 q9 b8 hh b2 b3 ?_;exact⟨_,none,H,rfl,rfl,rfl,w1,w2,w3,hR,aN.refl _ _ _ _⟩
  .have ha:am r x size how=(r,false):=by rw[am,b,b2];rfl
   rw[ha];obtain⟨a1,c1,e1⟩:=u.so.slice;rw[e1]at hh q9;refine J9 a6.symm n0 W.symm g1 a5 q9 b8 hh b2 ?_;exact⟨_,none,H,rfl,rfl,rfl,w1,w2,w3,hR,aN.refl _ _ _ _⟩
 .rw[b]at hh;have ha:am r x size how=(r,true):=by rw[am,b];rfl
  rw[ha];refine J8 a6.symm n0 W.symm g1 a5 q9 b8 hh ?_;exact⟨_,none,H,rfl,rfl,rfl,w1,w2,w3,hR,aN.refl _ _ _ _⟩
end Go.Proofs.YtofbhlhamfkljaaGreatDoor.Ve
namespace Go.Proofs.YtofbhlhamfkljaaGreatDoor.Ve
open Go Ve.Ab
open Go.Proofs.Tryz (prog)
noncomputable def p34:Code×Code×Code×Code×Code:=match Tryz.f34.body with
 |some (.seq a (.seq (.seq b (.block _ (.rangeFunc _ _ A B))) c))=>(a,b,A,B,c)
 |_=>(.skip,.skip,.skip,.skip,.skip)
theorem JW:Tryz.f34.body=some (.seq p34.1 (.seq (.seq p34.2.1 (.block 0 (.rangeFunc (.tmp 11) #[12,13] p34.2.2.1 p34.2.2.2.1))) p34.2.2.2.2)):=kR
abbrev zp:=cO [N 2 (bx 75 0),N 3 (bx 3 1),N 4 (.alloc 4)]
theorem Re:Q0 p34.1=some zp:=kR
abbrev zq:=cO [L 9 75 2,L 10 3 3,N 11 (c2 61 9 10 75 3)]
theorem Rf:Q0 p34.2.1=some zq:=kR
abbrev mU:=cX [A 5 12] (cO [A 6 13])
theorem PP:Q0 p34.2.2.1=some mU:=kR
abbrev Nk:=cS (.mix [⟨L 30 75 2,false,true,0,1⟩,m1 (L 31 75 2),m0 (N 32 (nc 31)),m0 (F 33 39 32 0),m1 (L 34 34 33),m1 (L 35 51 8),m1 (L 36 75 2),m0 (N 37 (nc 36)),m0 (F 38 39 37 2),m1 (L 39 36 38),m0 (M 40 5),m0 (N 41 (ia 36 39 40)),m1 (L 42 59 41),m1 (L 43 75 2),m0 (N 44 (nc 43)),m0 (F 45 39 44 2),m1 (L 46 36 45),m0 (M 47 6),m0 (N 48 (ia 36 46 47)),m1 (L 49 59 48),m3 (N 50 (cf 41 #[T 34,T 35,T 42,T 49] #[34,51,59,59])) 0 1,⟨L 51 3 3,false,true,0,1⟩,m2 (M 52 7) 0 1,m2 (M 53 5) 0 1,m2 (M 54 6) 0 1,m2 (N 55 (.build 56 #[(0,T 52),(1,T 53),(2,T 54)])) 0 1,m3 (N 56 (cf 62 #[T 30,T 50,T 51,T 55] #[75,59,3,56])) 1 2,m2 (N 57 (nt' 4 56)) 2 2]) (cC (T 57) (cR [V (.store 4 (T 4) B0)]) .skip)
abbrev Nl:=cS (cX [L 24 75 2,L 25 51 8,M 26 5,M 27 6,N 28 (cf 40 #[T 24,T 25,T 26,T 27] #[75,51,3,3]),N 29 (nt' 4 28)] (cC (T 29) (.exit 3) .skip)) Nk
abbrev Nm:=cS (cB 3 (cX [M 21 19,N 22 (ia 35 17 19),L 23 51 22,N 8 (.alloc 51),A 7 21,V (st' 51 8 23)] Nl)) (cO [N 58 (iN 19),M 19 58])
abbrev Jf:=cX [N 20 (bo .lss 3 19 18 3)] (cG 20 2 Nm)
abbrev mV:=cB 1 (cX [L 14 75 2,N 15 (nc 14),F 16 39 15 1,L 17 35 16,N 18 (ln 17 35),N 19 (.move (K 0))] (cW 2 Jf))
theorem PQ:Q0 p34.2.2.2.1=some mV:=kR
abbrev qp:=cR [V (.store 4 (T 4) B1)]
theorem Rg:Q0 p34.2.2.2.2=some qp:=kR
theorem Lh:prog.funcs[34]?=some Tryz.f34:=kR
theorem Rq:(I1 Tryz.f34.ntmps p34.1&&I1 Tryz.f34.ntmps p34.2.1&&I1 Tryz.f34.ntmps p34.2.2.1&&I1 Tryz.f34.ntmps p34.2.2.2.1&&I1 Tryz.f34.ntmps p34.2.2.2.2&&E7 p34.2.2.1&&E7 p34.2.2.2.1&&decide (12<Tryz.f34.ntmps)&&decide (13<Tryz.f34.ntmps))=true:=kR
theorem PI:fnA prog 34=none:=kR
theorem Ro:Tryz.f34.ntmps=59:=kR
theorem Rv:Tryz.f34.results.toList=[.cell 4 4]:=kR
end Go.Proofs.YtofbhlhamfkljaaGreatDoor.Ve
namespace Go.Proofs.YtofbhlhamfkljaaGreatDoor.Ve
open Go Go.RowKit
open Go.Proofs.Tryz (prog)
theorem oq(s:StD)(e:EvD)(u z:SoD):∀(l:List (PrD×Int))(bs:List Bool),(W9 s e u z l bs).length=bs.length
 |[],bs=>rfl
 |x::l,bs=>by
  rw[W9,oq s e u z l,aV,rZ];simp
theorem FR(s:StD)(e:EvD)(u z:SoD){n:Nat}(E:(n:Int)=A0 s.progs):bJ (I4 s e u z) n:=fun _=>by
 show(kz (W9 s e u z (s.progs.zip s.base) (List.replicate (A0 s.progs).toNat false))).size=n;have D:∀l:List Bool,(kz l).size=l.length:=fun l=>by
  show((l.map fun b=>if b then(1:UInt8) else 0).toArray).size=_;simp
 rw[D,oq,List.length_replicate];omega
structure WfR(r:ReD)(n:Nat):Prop where
 n0:(n:Int)=A0 r.strat.progs
 st:WfS r.strat n
 so:∀x∈r.sorts,bJ x n
 at_:∀e∈r.labels,e.attrs.length<=1000000
 sz:∀p∈r.strat.progs,p.ts.length<=1000000/\p.ed.length<=1000000/\0<=p.st/\p.st<=1000000
 l1:r.sorts.length<=25
 l2:r.size.length=r.sorts.length
 l3:r.how.length=r.sorts.length
 ll:r.labels.length<=1000
 l0:1<=r.sorts.length
 sb:∀x∈r.size,0<=x/\x<=200
theorem eF(r:ReD)(x:SoD)(size:Int)(how:Int×Int×Int):(am r x size how).1.strat=r.strat/\(am r x size how).1.labels=r.labels/\r.size<+:(am r x size how).1.size/\r.sorts<+:(am r x size how).1.sorts:=by
 unfold am;split
 .exact⟨rfl,rfl,List.prefix_rfl,List.prefix_rfl⟩
 .split
  .exact⟨rfl,rfl,List.prefix_rfl,List.prefix_rfl⟩
  .exact⟨rfl,rfl,List.prefix_append _ _,List.prefix_append _ _⟩
theorem WfR.add{r:ReD}{n:Nat}(h:WfR r n){x:SoD}(D:bJ x n){size:Int}(E:0<=size)(how:Int×Int×Int):WfR (am r x size how).1 n:=by
 unfold am;split
 .exact h
 .split
  .exact h
  .rename_i z;simp only[Bool.or_eq_true,decide_eq_true_eq,not_or]at z;refine⟨h.n0,h.st,fun y u=>?_,h.at_,h.sz,?_,?_,?_,h.ll,?_,fun y u=>?_⟩
   .rcases List.mem_append.1 u with q|q
    .exact h.so y q
    .rw[List.mem_singleton.1 q];exact D
   .simp only[List.length_append,List.length_singleton];omega
   .simp only[List.length_append,List.length_singleton];rw[h.l2]
   .simp only[List.length_append,List.length_singleton];rw[h.l3]
   .simp only[List.length_append,List.length_singleton];omega
   .rcases List.mem_append.1 u with q|q
    .exact h.sb y q
    .rw[List.mem_singleton.1 q];omega
def soZ:SoD:=(false,false,eB)
def M9(size a b:Int):List EvD->Nat->ReD->ReD×Bool
 |[],_,r=>(r,true)
 |e::l,i,r=>
  if R5 r.sorts e.kind a b then
   if(am r (I4 r.strat e (r.sorts.getD a.toNat soZ) (r.sorts.getD b.toNat soZ)) size (i,a,b)).2 then M9 size a b l (i+1) (am r (I4 r.strat e (r.sorts.getD a.toNat soZ) (r.sorts.getD b.toNat soZ)) size (i,a,b)).1
   else((am r (I4 r.strat e (r.sorts.getD a.toNat soZ) (r.sorts.getD b.toNat soZ)) size (i,a,b)).1,false)
  else M9 size a b l (i+1) r
structure CN(Hb:N7)(rb lw:Nat)(W0:LV)(b2 b3 b4:Nat)(size:Int):Prop where
 g2:Hb.get b2=cE [pT rb] 1
 g3:Hb.get b3=cE [iV size] 1
 g4:∃v,Hb.get b4=cE [v] 1
 ne:∀j,(j=b2\/j=b3\/j=b4)->lw<=j/\j≠rb/\∀w∈W0,¬l7 w j
theorem CN.at_{u:N7}{J U:Nat}{O:LV}{z D E:Nat}{size:Int}(h:CN u J U O z D E size){W:LV}{H:N7}(X:aN J U O u W H):H.get z=cE [pT J] 1/\H.get D=cE [iV size] 1/\∃v,H.get E=cE [v] 1:=by
 obtain⟨v,S⟩:=h.g4;have k:∀j,(j=z\/j=D\/j=E)->j<u.next->H.get j=u.get j:=fun j hj hl=>by
  have:=h.ne j hj;exact X.but j hl this.2.1 this.2.2
 exact⟨(k z (.inl rfl) (u7 h.g2)).trans h.g2,(k D (.inr (.inl rfl)) (u7 h.g3)).trans h.g3,v,(k E (.inr (.inr rfl)) (u7 S)).trans S⟩
theorem uM(Hs:N7)(lo K:Nat)(rb lw:Nat)(G:Nat->Prop)(rs:LV)(vl:Value)(W0:LV)(Hb:N7)(b2 b3 b4:Nat)(size a b:Int)(h0:0<=size)(n:Nat)(a5:CN Hb rb lw W0 b2 b3 b4 size)(m3:lo<=lw)(g6:∀j,j<lo->Hb.get j=Hs.get j) (va:Option Addr) (vc:Nat) (O:List EvD) (e6:vl= .slice va O.length vc) (U:ReD×Bool):
  ∀kk e H,(∃(i:Nat)(r:ReD)(X x2 x3:Value),kk=O.length-i/\i<=O.length/\e.get 2=pT b2/\e.get 3=pT b3/\e.get 4=pT b4/\e.get 5=iV a/\e.get 6=iV b/\e.get 17=vl/\e.get 18=iV O.length/\e.get 19=iV i/\
    r.labels=O/\U0 (QR Hs lo K false) (QR Hs lo K true) H rb lw G r rs vl X x2 x3/\aN rb lw W0 Hb [X,x2,x3] H/\WfR r n/\M9 size a b (O.drop i) i r=U)->
  w7 (LE prog t6 (.loop Jf) e H) (fun o e H=>(o= .exit 2/\U.2=true/\∃X x2 x3,U0 (QR Hs lo K false) (QR Hs lo K true) H rb lw G U.1 rs vl X x2 x3/\aN rb lw W0 Hb [X,x2,x3] H/\WfR U.1 n)\/(o= .ret/\U.2=false/\H.get b4=cE [.bool false] 1/\i6 lw Hb H)):=by
 refine i8 _ _ ?_;rintro kk e H ⟨i,r,X,x2,x3,hk,hi,f2,f3,f4,f5,f6,c6,a1,b5,a6,hR,hT,u,D⟩;obtain⟨g2,g3,w4,g4⟩:=a5.at_ hT;have h1:=u.ll;rw[a6]at h1;rcases bd:decide ((i:Int)<O.length)with _|_
 .have g5:=dF bd;have:O.drop i=[]:=dN oM;rw[this,M9]at D;refine J3 b5 a1 bd ?_;exact i9 (.inl ⟨rfl,by rw[<-D],X,x2,x3,by rw[<-D];exact hR,hT,by rw[<-D];exact u⟩)
 have g5:=dT bd;have g9:i<O.length:=oM;have c3:=hR.lb;rw[a6,e6]at c3;obtain⟨ev,nb,o,cs,own,el,hx,hd,rfl,k8,hg,m2,a7,hc,d4⟩:=c3.row (i:=i) g9;rw[hd,M9]at D;have nt:(i:Int).toNat=i:=tN i;have g7:ev∈r.labels:=by rw[a6];exact mG hx
 obtain⟨av,b7,g0⟩:=id d4;obtain⟨aa,ac,rfl⟩:=g0.slice;have b9:el.length=5:=by rw[b7];rfl
 have b1:el.all oC=true:=by rw[b7];rfl
 have f1:el[0]?=some (.int .i64 ev.kind):=by rw[b7];rfl
 have W:=c6;rw[e6]at W;obtain⟨H1,b6,n1,g1,-⟩:=pushE H (bC [iV 0,.string eB,.string eB,nS,.string eB] 1);have d1:el.take 5=el:=List.take_of_length_le oM;obtain⟨H2,a2⟩:=eY (H1.put H.next (bC el 1));have n2:H2.next=H.next+1:=by rw[a2,t5,n1]
 have sp:splice [iV 0,.string eB,.string eB,nS,.string eB] 0 el=el:=by rw[b7];rfl
 have hS:i6 H.next H H2:=by rw[a2,b6];exact(i6.push lR).trans (i6.put lR)
 have ge:H2.get H.next=cE el 1:=by rw[a2];exact j5 oM
 have E:=hR.keep hS;have a3:=E.g;have m6:=u7 hR.g;have m4:=hR.nb.1;have l2:b2<H.next:=u7 g2;have l3:b3<H.next:=u7 g3;have l4:b4<H.next:=u7 g4;have c7:=(hS.get b2 l2).trans g2;have d3:=(hS.get b3 l3).trans g3;have k5:=(hS.get b4 l4).trans g4;obtain⟨q8,q9,i1,i2⟩:=E.at_;have h4:=hR.rsl;have c9:aN rb lw W0 Hb [X,x2,x3] H2:=hT.trans (aN.of hS oM);have b0:=ET H2 rb _ true 1 a3 r.sorts X E.so.sl q9 el ev b9 b1 f1 a b;have c5:∀(e':Env)(H':N7)(r':ReD)(y1 y2 y3:Value),e'.get 2=pT b2->e'.get 3=pT b3->e'.get 4=pT b4->e'.get 5=iV a->e'.get 6=iV b->e'.get 17=vl->e'.get 18=iV O.length->e'.get 19=iV (i+1:Nat)->
   r'.labels=O->U0 (QR Hs lo K false) (QR Hs lo K true) H' rb lw G r' rs vl y1 y2 y3->aN rb lw W0 Hb [y1,y2,y3] H'->WfR r' n->M9 size a b (O.drop (i+1)) (i+1) r'=U->
   ∃(i:Nat)(r:ReD)(X x2 x3:Value),kk-1=O.length-i/\i<=O.length/\e'.get 2=pT b2/\e'.get 3=pT b3/\e'.get 4=pT b4/\e'.get 5=iV a/\e'.get 6=iV b/\e'.get 17=vl/\e'.get 18=iV O.length/\e'.get 19=iV i/\
    r.labels=O/\U0 (QR Hs lo K false) (QR Hs lo K true) H' rb lw G r rs vl X x2 x3/\aN rb lw W0 Hb [X,x2,x3] H'/\WfR r n/\M9 size a b (O.drop i) i r=U:=
  fun e' H' r' y1 y2 y3 p1 p2 p3 p4 p5 p6 p7 p8 p9 h6 h7 h8 h9=>⟨i+1,r',y1,y2,y3,oM,oM,p1,p2,p3,p4,p5,p6,p7,p8,p9,h6,h7,h8,h9⟩
 have nx:((i:Int)+1)=((i+1:Nat):Int):=oM;obtain⟨i3,S⟩:=eY (rs++[vl,X,x2,x3]);have e9:ldC (some true) (some 8) 0 i3=some (.agg rs.toArray):=by
  rw[eW _ _ _ (by rw[S];simp [h4]),S,List.drop_zero,List.take_append_of_le_length oM,List.take_of_length_le oM]
 rw[<-S]at a3 q8 q9 i1 i2;rcases bm:R5 r.sorts ev.kind a b with _|_
 .rw[bm]at b0 D;simp only[bF]at D;refine J21 f2 f5 f6 W a1 b5 bd hg nt a7 b6.symm g1 b9 b1 d1 sp a2.symm ge c7 b0 @wrap_small ?_;exact i4 (kk-1) oM (c5 _ _ r X x2 x3 f2 f3 f4 f5 f6 c6 a1 (by rw[<-nx];rfl) a6 E c9 u D)
 .rw[bm]at b0 D;simp only[if_true]at D;have d2:=bm;simp only[R5,knB,Bool.and_eq_true,decide_eq_true_eq]at d2;obtain⟨⟨⟨k9,l5⟩,l6,l8⟩,_⟩:=d2;have b8:=E.so.sl;have j2:=b8;obtain⟨sa,sc,rfl⟩:=b8.slice;obtain⟨fi,h5,oa,k0,j3,f7,e7,_,e1,k6,d0,j0,a8,m0,g8⟩:=b8.row (i:=a.toNat) oM;obtain⟨ne,m7,ob,k1,j4,f8,e8,_,e2,k7,d9,j1,a9,m1,e5⟩:=b8.row (i:=b.toNat) oM;obtain rfl:f7=soE fi:=g8;obtain rfl:f8=soE ne:=e5;subst e1;cases e2;rw[d0]at d9;cases d9;have d8:r.sorts.getD a.toNat soZ=fi:=by rw[List.getD_eq_getElem?_getD,e7];rfl
  have e3:r.sorts.getD b.toNat soZ=ne:=by rw[List.getD_eq_getElem?_getD,e8];rfl
  rw[d8,e3]at D;have e4:=qw Hs lo K r.strat ev fi ne G H2 rs el E.st (y9 _ _ _ _ _ _ d4 (fun j hj=>hS.get j (hR.fr j hj).1) (fun _ h=>h)) (fun j hj=>(E.fr j hj).1) (fun j hj=>by rw[c9.stay.get j oM];exact g6 j hj) (oN (u7 a3)) n u.n0 u.st (u.so fi (mG e7)) (u.so ne (mG e8)) (u.at_ ev g7) u.sz;have d6:=MR (QR Hs lo K false) (QR Hs lo K true) H2 rb lw G r rs vl (.slice (some ⟨h5,oa,none⟩) r.sorts.length sc) x2 x3 E (I4 r.strat ev fi ne) size (i,a,b) (oN (u.l1)) (by have:=u.l1;have:=u.l2;omega) (by have:=u.l1;have:=u.l3;omega);obtain⟨m8,m5,H3,J,c0,h2,y1,y2,y3,d5,f9⟩:=d6;subst h2;have a4:=c9.trans f9;have c4:=u.add (FR r.strat ev fi ne u.n0) h0 (i,a,b);obtain⟨i0,f0,_,_⟩:=eF r (I4 r.strat ev fi ne) size (i,a,b);obtain⟨z,hz⟩:=eY (am r (I4 r.strat ev fi ne) size (i,a,b));rw[<-hz]at J d5 c4 i0 f0 D;obtain⟨k2,k3,w5,k4⟩:=a5.at_ a4;rcases bz:z.2 with _|_
  .rw[bz]at J D;simp only[bF]at D;have h3:b4<H3.next:=u7 k4;obtain⟨H4,c8⟩:=eY (H3.put b4 (bC [.bool false] 1));have e5:=(a5.ne b4 (.inr (.inr rfl))).1;refine J30 f2 f3 f4 f5 f6 W a1 b5 e9 bd hg nt a7 b6.symm g1 b9 b1 d1 sp a2.symm ge c7 d3 b0 a3 q9 (aI d0 a8) (aI a9 e4) (aI J c0) (aI k4 c8.symm) ?_;refine z9 (.inr ⟨rfl,by rw[<-D],by rw[c8];exact j5 h3,?_⟩);rw[c8];exact a4.stay.trans (i6.put oM)
  .rw[bz]at J D;simp only[if_true]at D;refine J30 f2 f3 f5 f6 W a1 b5 e9 bd hg nt a7 b6.symm g1 b9 b1 d1 sp a2.symm ge c7 d3 b0 a3 q9 d0 a8 a9 (aI e4 J) (aI c0 @wrap_small) ?_;exact i4 (kk-1) oM (c5 _ _ z.1 y1 y2 y3 f2 f3 f4 f5 f6 c6 a1 (by rw[<-nx];rfl) (by rw[f0,a6]) d5 a4 c4 D)
end Go.Proofs.YtofbhlhamfkljaaGreatDoor.Ve
namespace Go.Proofs.YtofbhlhamfkljaaGreatDoor.Ve
open Go
theorem mN{i:Nat}{p q:Nat->Bool}:∀m,i<m->(∀j,j<m->j≠i->p j=q j)->p i=true->q i=false->(List.range m).countP p=(List.range m).countP q+1:=by
 intro m;induction m with
 |zero=>intro h;omega
 |succ m O=>
  intro S h D E;rw[List.range_succ,List.countP_append,List.countP_append,List.countP_singleton,List.countP_singleton];by_cases z:i=m
  .subst z;have:(List.range i).countP p=(List.range i).countP q:=List.countP_congr fun x J=>by rw[h x (oN (List.mem_range.1 J)) (oN (List.mem_range.1 J))]
   rw[this,D,E];rfl
  .rw[O oM (fun j U u=>h j oM u) D E,h m oM (fun q=>z q.symm)];omega
def unl(m:Nat)(L:Array Bool):Nat:=(List.range m).countP fun i=> !L.getD i true
def aj(md:Region.Mode)(ops:Array Oper)(i:Nat):List Nat:=((ops[i]?).map fun o=>(o.after.toList.filter fun e=>Region.binds md e).map (·.on)).getD []
theorem Z8{md:Region.Mode}{ops:Array Oper}{L:Array Bool}{i:Nat}:i∈Region.ready md ops L↔i<ops.size/\L.getD i true=false/\∀d∈aj md ops i,L.getD d false=true:=by
 unfold Region.ready aj;rw[List.mem_filter,List.mem_range]
 constructor
 .rintro⟨h,u⟩;simp only[Bool.and_eq_true,Bool.not_eq_true']at u;refine⟨h,u.1,fun d D=>?_⟩;have J:ops[i]?=some ops[i]:=Array.getElem?_eq_getElem h;rw[J]at u D;simp only[Option.map_some,Option.getD_some,List.mem_map,List.mem_filter]at u D;obtain⟨e,⟨E,z⟩,rfl⟩:=D;have:=Array.all_eq_true'.1 u.2 e (by simpa using E);simp only[z,Bool.not_true,Bool.false_or]at this;exact this
 .rintro⟨h,O,u⟩;refine⟨h,?_⟩;have J:ops[i]?=some ops[i]:=Array.getElem?_eq_getElem h;rw[J]at u ⊢;simp only[Option.map_some,Option.getD_some,Bool.and_eq_true,Bool.not_eq_true']at u ⊢;refine⟨O,Array.all_eq_true'.2 fun e E=>?_⟩;by_cases z:Region.binds md e=true
  .rw[u e.on (List.mem_map.2 ⟨e,List.mem_filter.2 ⟨by simpa using E,z⟩,rfl⟩)];simp
  .simp [z]
theorem U3(L:Array Bool)(i j:Nat)(d:Bool):(L.setIfInBounds i true).getD j d=if i=j then(if j<L.size then true else d) else L.getD j d:=by
 rw[Array.getD_eq_getD_getElem?,Array.getElem?_setIfInBounds,Array.getD_eq_getD_getElem?];by_cases h:i=j
 .subst h;by_cases u:i<L.size
  .simp [u]
  .simp [u]
 .simp [h]
theorem bD{L:Array Bool}{i:Nat}(h:i<L.size)(a b:Bool):L.getD i a=L.getD i b:=by
 rw[Array.getD_eq_getD_getElem?,Array.getD_eq_getD_getElem?,Array.getElem?_eq_getElem h];rfl
structure mr(md:Region.Mode)(ops pre:Array Oper):Prop where
 le:pre.size<=ops.size
 pos:0<pre.size
 same:∀i:Nat,i<pre.size->ops[i]?=pre[i]?
 plain:∀(i:Nat)(o:Oper),pre[i]?=some o->o.guard=none
 back:∀i,i<pre.size->∀d∈aj md ops i,d<i
 used:∀i,i+1<pre.size->∃j,i<j/\j<pre.size/\i∈aj md ops j
 later:∀i,pre.size<=i->i<ops.size->∃d,d∈aj md ops i/\pre.size<=d+1
structure zZ(ops pre:Array Oper)(md:Region.Mode)(L L':Array Bool):Prop where
 s1:L.size=ops.size
 s2:L'.size=pre.size
 eq:∀i,i<pre.size->L.getD i true=L'.getD i true
 off:∀i,pre.size<=i->i<ops.size->L.getD i true=false
 cl:∀i,i<pre.size->L'.getD i true=true->∀d∈aj md ops i,L'.getD d true=true
section
variable{F:Fence}{n:Nat}{P:Program}{ops pre:Array Oper}{md:Region.Mode}{Q Q':Exit->Act->World->Prop}
theorem qj(h:mr md ops pre){L O:Array Bool}(r:zZ ops pre md L O)(hl:O.getD (pre.size-1) true=false){i:Nat}:i∈Region.ready md ops L↔i∈Region.ready md pre O:=by
 have hp:=h.pos;have a1:=h.le;have w:∀i,i<pre.size->aj md ops i=aj md pre i:=fun i z=>by unfold aj;rw[h.same i z]
 rw[Z8,Z8]
 constructor
 .rintro⟨D,S,J⟩;by_cases z:i<pre.size
  .refine⟨z,(r.eq i z)▸S,fun d u=>?_⟩;rw[<-w i z]at u;have U:=h.back i z d u;have:=J d u;rw[bD (by rw[r.s1];omega) false true,r.eq d oM]at this;rw[bD (by rw[r.s2];omega) false true];exact this
  .obtain⟨d,u,X⟩:=h.later i oM D;have:=J d u
   exfalso
   by_cases W:d<pre.size
   .have e:d=pre.size-1:=oM;rw[bD (by rw[r.s1];omega) false true,r.eq d W,e,hl]at this;cases this
   .by_cases E:d<ops.size
    .rw[bD (by rw[r.s1];exact E) false true,r.off d oM E]at this;cases this
    .rw[Array.getD_eq_getD_getElem?,Array.getElem?_eq_none (by rw[r.s1];omega)]at this;cases this
 .rintro⟨D,S,J⟩;refine⟨oM,(r.eq i D).symm▸S,fun d u=>?_⟩;have U:=h.back i D d u;rw[w i D]at u;have:=J d u;rw[bD (by rw[r.s2];omega) false true]at this;rw[bD (by rw[r.s1];omega) false true,r.eq d oM];exact this
theorem zn(h:mr md ops pre){L u:Array Bool}(r:zZ ops pre md L u)(J:u.getD (pre.size-1) true=true):∀i,i<pre.size->u.getD i true=true:=by
 have:∀k i,i+k+1=pre.size->u.getD i true=true:=by
  intro k;induction k using Nat.strongRecOn with
  |ind k O=>
   intro i E;by_cases U:i+1=pre.size
   .have:i=pre.size-1:=oM;rw[this];exact J
   .obtain⟨j,S,z,D⟩:=h.used i oM;exact r.cl j z (O (pre.size-1-j) oM j oM) i D
 exact fun i E=>this (pre.size-1-i) i oM
theorem qi(h:mr md ops pre){L z:Array Bool}(r:zZ ops pre md L z)(W:z.getD (pre.size-1) true=false):∃i,i∈Region.ready md pre z:=by
 have hp:=h.pos;have:∀k i,i<=k->i<pre.size->z.getD i true=false->∃j,j∈Region.ready md pre z:=by
  intro k;induction k with
  |zero=>
   intro i U u J;refine⟨i,Z8.2 ⟨u,J,fun d D=>?_⟩⟩;have:=h.back i u d (by unfold aj at D ⊢;rw[h.same i u];exact D);omega
  |succ k ih=>
   intro i U u J;by_cases O:∃j,j<i/\z.getD j true=false
   .obtain⟨j,h1,S⟩:=O;exact ih j oM oM S
   .refine⟨i,Z8.2 ⟨u,J,fun d D=>?_⟩⟩;have E:=h.back i u d (by unfold aj at D ⊢;rw[h.same i u];exact D);rw[bD (by rw[r.s2];omega) false true];cases X:z.getD d true with
    |true=>rfl
    |false=>exact absurd ⟨d,E,X⟩ O
 exact this (pre.size-1) (pre.size-1) lR oM W
theorem Kk(h:mr md ops pre)(k:Nat)(Lm:Array Bool)(a5:∀L D,zZ ops pre md L D->(∀i,i<pre.size->D.getD i true=true)->L=Lm)
  (O:∀c a w,Q' (.panic c) a w->Q (.panic c) a w) (a4:∀a w,Q' .normal a w->wpAnyIn F n P md ops Q k Lm a w) (a1:LetsOut Q'->LetsOut Q):
  ∀u L D a w,zZ ops pre md L D->unl pre.size D=u->wpAnyIn F n P md pre Q' u D a w->wpAnyIn F n P md ops Q (u+k) L a w:=by
 have hp:=h.pos;intro u;induction u with
 |zero=>
  intro L D a w r hu hw;have hl:D.getD (pre.size-1) true=true:=by
   cases hv:D.getD (pre.size-1) true with
   |true=>rfl
   |false=>
    obtain⟨i,hi⟩:=qi h r hv;rw[hw.1]at hi;cases hi
  rw[Nat.zero_add,a5 L D r (zn h r hl)];exact a4 a w hw.2
 |succ u ih=>
  intro L D a w r hu hw;have hl:D.getD (pre.size-1) true=false:=by
   cases hv:D.getD (pre.size-1) true with
   |false=>rfl
   |true=>
    have:unl pre.size D=0:=by
     unfold unl;rw[List.countP_eq_zero];intro i hi;rw[zn h r hv i (List.mem_range.1 hi)];decide
    omega
  obtain⟨i0,a7⟩:=qi h r hl;rw[show u+1+k=(u+k)+1 from oM];refine⟨fun q=>?_,fun i hi=>?_⟩
  .have:=(qj h r hl).2 a7;rw[q]at this;cases this
  .have a2:=(qj h r hl).1 hi;obtain⟨U,a8,a9⟩:=Z8.1 a2;have z:=hw.2 i a2;have ho:pre[i]?=some pre[i]:=Array.getElem?_eq_getElem U;have b2:ops[i]?=some pre[i]:=(h.same i U).trans ho;have hg:=h.plain i _ ho;have r2:zZ ops pre md (L.setIfInBounds i true) (D.setIfInBounds i true):=by
    refine⟨by simp [r.s1],by simp [r.s2],fun j W=>?_,fun j W b0=>?_,fun j W hv d hd=>?_⟩
    .rw[U3,U3,r.s1,r.s2,if_pos (show j<ops.size by have:=h.le;omega),if_pos W,r.eq j W]
    .rw[U3,if_neg oM];exact r.off j W b0
    .have b5:=h.back j W d hd;rw[U3]at hv ⊢;by_cases a3:i=j
     .subst a3;have a6:d∈aj md pre i:=by unfold aj at hd ⊢;rw[<-h.same i W];exact hd
      have:=a9 d a6;rw[bD (by rw[r.s2];omega) false true]at this;by_cases J:i=d
      .rw[if_pos J,if_pos (by rw[r.s2];omega)]
      .rw[if_neg J];exact this
     .rw[if_neg a3]at hv;have:=r.cl j W hv d hd;by_cases J:i=d
      .rw[if_pos J,if_pos (by rw[r.s2];omega)]
      .rw[if_neg J];exact this
   have X:unl pre.size (D.setIfInBounds i true)=u:=by
    have:=mN (i:=i) (p:=fun j=> !D.getD j true) (q:=fun j=> !(D.setIfInBounds i true).getD j true) pre.size U (fun j W b1=>by
     simp only[U3];rw[if_neg (fun q=>b1 q.symm)]) (by show(!D.getD i true)=true;rw[a8];rfl) (by show(!(D.setIfInBounds i true).getD i true)=false;rw[U3,if_pos rfl,if_pos (by rw[r.s2];exact U)];rfl)
    unfold unl at hu ⊢;omega
   unfold wpOpIn at z ⊢;simp only[ho,b2]at z ⊢;have b3:∀v,Region.wanted pre[i] v=true:=fun v=>by unfold Region.wanted;rw[hg]
   simp only[b3,if_true]at z ⊢;refine⟨z.1,?_⟩;have E:=z.2;generalize (pre[i].semAt F.round a.eval).run P w=res at E ⊢;cases res with
   |ok x w'=>
    cases x<;>simp only[Oper.uponIn]at E ⊢ <;>
     first
      |exact ih _ _ _ _ r2 X E
      |exact⟨E.1,CallsIn.mono E.2 (fun e b4 S=>by cases e<;>first|exact ih _ _ _ _ r2 X S|exact O _ _ _ S|exact a1 S)⟩
      |exact⟨E.1,RowsIn.mono E.2 (fun _ _ S=>ih _ _ _ _ r2 X S)⟩
      |exact⟨E.1,RoundIn.mono E.2 (fun e b4 S=>by cases e<;>first|exact ih _ _ _ _ r2 X S|exact O _ _ _ S|exact a1 S)⟩
   |halt x w'=>cases x<;>simp only[Oper.uponIn]at E ⊢ <;>first|exact O _ _ _ E|exact E
end
structure yW(md:Region.Mode)(pre:Array Oper):Prop where
 plain:∀(i:Nat)(o:Oper),pre[i]?=some o->o.guard=none/\o.dst.isSome=true/\(∀cs b,o.op≠ .select cs b)/\(∀c,o.op≠ .defer c)
 apart:∀(i j:Nat)(oi oj:Oper),pre[i]?=some oi->pre[j]?=some oj->i≠j->oi.dst≠oj.dst
 reads:∀(i j:Nat)(oi oj:Oper)(t:Tmp),pre[i]?=some oi->pre[j]?=some oj->Operand.tmp t∈oi.op.operands->oj.dst=some t->j∈aj md pre i
structure CT(pre:Array Oper)(a0 af:Act)(L:Array Bool)(a:Act):Prop where
 sz:L.size=pre.size
 ts:a.tmps.size=a0.tmps.size
 df:a.defers=a0.defers
 on:∀(j:Nat)(o:Oper)(t:Tmp),pre[j]?=some o->o.dst=some t->L.getD j true=true->a.tmps.getD t undef=af.tmps.getD t undef
 off:∀t,(∀(j:Nat)(o:Oper),pre[j]?=some o->o.dst=some t->L.getD j true=false)->a.tmps.getD t undef=a0.tmps.getD t undef
theorem yX{a b:Act}(u:a.tmps.size=b.tmps.size)(z:a.defers=b.defers)(D:∀t,a.tmps.getD t undef=b.tmps.getD t undef):a=b:=by
 obtain⟨E,S⟩:=a;obtain⟨W,U⟩:=b;simp only at u z D;subst z
 congr 1
 apply Array.ext u;intro i J O;have:=D i;rw[Array.getD_eq_getD_getElem?,Array.getD_eq_getD_getElem?,Array.getElem?_eq_getElem J,Array.getElem?_eq_getElem O]at this;exact this
theorem FS{n:Nat}{P:Program}{pre:Array Oper}{md:Region.Mode}{Q:Exit->Act->World->Prop}(h:yW md pre){a0 af:Act}{w:World}(hs:af.tmps.size=a0.tmps.size)(hd:af.defers=a0.defers)
  (X:∀t,(∀(j:Nat)(o:Oper),pre[j]?=some o->o.dst≠some t)->af.tmps.getD t undef=a0.tmps.getD t undef) (a8:∀(j:Nat)(o:Oper)(t:Tmp),pre[j]?=some o->o.dst=some t->t<a0.tmps.size)
  (a2:∀(i:Nat)(o:Oper)(t:Tmp),pre[i]?=some o->o.dst=some t->(execOp af.eval o).run P w= .ok (.value (af.tmps.getD t undef)) w) (hQ:Q .normal af w)
  (a1:∀L:Array Bool,L.size=pre.size->Region.ready md pre L=[]->∀i,i<pre.size->L.getD i true=true):
  ∀D L a,CT pre a0 af L a->unl pre.size L<=D->wpAnyIn Fence.wide n P md pre Q D L a w:=by
 have done:∀L a,CT pre a0 af L a->(∀i,i<pre.size->L.getD i true=true)->a=af:=fun L a r W=>by
  refine yX (r.ts.trans hs.symm) (r.df.trans hd.symm) fun t=>?_;by_cases J:∃(j:Nat)(o:Oper),pre[j]?=some o/\o.dst=some t
  .obtain⟨j,o,z,E⟩:=J;exact r.on j o t z E (W j (gA z).1)
  .rw[X t (fun j o z E=>J ⟨j,o,z,E⟩)];exact r.off t fun j o z E=>absurd ⟨j,o,z,E⟩ J
 intro D;induction D with
 |zero=>
  intro L a r hu;have W:∀i,i<pre.size->L.getD i true=true:=fun i hi=>by
   have h0:unl pre.size L=0:=oM;unfold unl at h0;rw[List.countP_eq_zero]at h0;have:=h0 i (List.mem_range.2 hi)
   simpa using this
  refine⟨?_,(done L a r W)▸hQ⟩;cases hr:Region.ready md pre L with
  |nil=>rfl
  |cons i is=>
   have:=(Z8.1 (show i∈Region.ready md pre L by rw[hr];simp))
   rw[W i this.1]at this;cases this.2.1
 |succ D ih=>
  intro L a r hu;refine⟨fun q=>(done L a r (a1 L r.sz q))▸hQ,fun i hi=>?_⟩;obtain⟨U,a7,a9⟩:=Z8.1 hi;have ho:pre[i]?=some pre[i]:=Array.getElem?_eq_getElem U;obtain⟨hg,a5,a3,b4⟩:=h.plain i _ ho;obtain⟨t,ht⟩:=Option.isSome_iff_exists.1 a5;have b2:=a8 i _ t ho ht;unfold wpOpIn;simp only[ho];have b3:∀v,Region.wanted pre[i] v=true:=fun v=>by unfold Region.wanted;rw[hg]
  simp only[b3,if_true];have a6:∀x∈pre[i].op.operands,a.eval x=af.eval x:=fun x hx=>by
   cases x with
   |tmp u=>
    show a.tmps.getD u undef=af.tmps.getD u undef;by_cases J:∃(j:Nat)(o:Oper),pre[j]?=some o/\o.dst=some u
    .obtain⟨j,o,z,E⟩:=J;have b0:=(gA z).1;have hw:=a9 j (h.reads i j _ o u ho z hx E);rw[bD (by rw[r.sz];exact b0) false true]at hw;exact r.on j o u z E hw
    .rw[X u (fun j o z E=>J ⟨j,o,z,E⟩)];exact r.off u fun j o z E=>absurd ⟨j,o,z,E⟩ J
   |_=>rfl
  refine⟨fun _ _=>trivial,?_⟩;have e1:pre[i].semAt Fence.wide.round a.eval=execOp af.eval pre[i]:=(Oper.semAt_none _ _).trans (execOp_congr _ a3 a6);rw[e1,a2 i _ t ho ht,Oper.uponIn_value,ht];refine ih _ _ ⟨by simp [r.sz],?_,?_,fun j o u z E W=>?_,fun u a4=>?_⟩ ?_
  .show(a.tmps.setIfInBounds t _).size=_;rw[Array.size_setIfInBounds];exact r.ts
  .exact r.df
  .show(a.tmps.setIfInBounds t _).getD u undef=_;rw[Array.getD_eq_getD_getElem?,Array.getElem?_setIfInBounds];by_cases O:t=u
   .rw[if_pos O,if_pos (by rw[r.ts];exact O▸b2),O];rfl
   .rw[if_neg O,<-Array.getD_eq_getD_getElem?];rw[U3]at W;by_cases S:i=j
    .subst S;rw[ho]at z;cases z;exact absurd (Option.some.inj (ht.symm.trans E)) O
    .rw[if_neg S]at W;exact r.on j o u z E W
  .show(a.tmps.setIfInBounds t _).getD u undef=_;have O:t≠u:=fun q=>by
    have:=a4 i _ ho (q▸ht);rw[U3,if_pos rfl,if_pos (by rw[r.sz];exact U)]at this;cases this
   rw[Array.getD_eq_getD_getElem?,Array.getElem?_setIfInBounds,if_neg O,<-Array.getD_eq_getD_getElem?];refine r.off u fun j o z E=>?_;have:=a4 j o z E;rw[U3]at this;by_cases S:i=j
   .rw[if_pos S]at this;split at this
    .cases this
    .cases this
   .rw[if_neg S]at this;exact this
  .have:=mN (i:=i) (p:=fun j=> !L.getD j true) (q:=fun j=> !(L.setIfInBounds i true).getD j true) pre.size U (fun j hj b1=>by
    simp only[U3];rw[if_neg (fun q=>b1 q.symm)]) (by show(!L.getD i true)=true;rw[a7];rfl) (by show(!(L.setIfInBounds i true).getD i true)=false;rw[U3,if_pos rfl,if_pos (by rw[r.sz];exact U)];rfl)
   unfold unl at hu ⊢;omega
theorem mr.least{md:Region.Mode}{pre:Array Oper}(z:∀i,i<pre.size->∀d∈aj md pre i,d<i) {L:Array Bool} (J:L.size=pre.size) (E:Region.ready md pre L=[]):∀i,i<pre.size->L.getD i true=true:=by
 intro i;induction i using Nat.strongRecOn with
 |ind i S=>
  intro u;cases O:L.getD i true with
  |true=>rfl
  |false=>
   have:i∈Region.ready md pre L:=Z8.2 ⟨u,O,fun d D=>by
    have:=z i u d D;rw[bD (by rw[J];omega) false true];exact S d this oM⟩
   rw[E]at this;cases this
def EC(t:Tmp)(x:Operand):Bool:=match x with| .tmp u=>u==t|_=>false
def xY(o:Oper):Bool:=o.guard.isNone&&o.dst.isSome&&(match o.op with| .select .. =>false| .defer .. =>false|_=>true)
def Kg(l:List Oper)(m:Nat):Bool:=
 let ops:=l.toArray
 let pre:=(l.take m).toArray
 decide (0<m)&&decide (m<=l.length)&&(List.range m).all (fun i=>(aj .any ops i).all fun d=>decide (d<i))&&(List.range m).all (fun i=>decide (m<=i+1)||(List.range m).any fun j=>decide (i<j)&&(aj .any ops j).contains i)&&
 (List.range l.length).all (fun i=>decide (i<m)||(aj .any ops i).any fun d=>decide (m<=d+1))&&(l.take m).all xY&&
 (List.range m).all (fun i=>(List.range m).all fun j=>match pre[i]?,pre[j]? with
  |some oi,some oj=>(decide (i=j)||decide (oi.dst≠oj.dst))&&(match oj.dst with|some t=> !(oi.op.operands.toList.any (EC t))||(aj .any pre i).contains j|none=>true)
  |_,_=>false)
theorem AR{l:List Oper}{m:Nat}(h:Kg l m=true):mr .any l.toArray (l.take m).toArray/\yW .any (l.take m).toArray/\m<=l.length:=by
 simp only[Kg,Bool.and_eq_true,decide_eq_true_eq,List.all_eq_true,List.mem_range]at h;obtain⟨⟨⟨⟨⟨⟨h0,h1⟩,h2⟩,h3⟩,h4⟩,h5⟩,h6⟩:=h;have E:(l.take m).toArray.size=m:=by simp;omega
 have O:∀i:Nat,i<m->l.toArray[i]?=(l.take m).toArray[i]?:=fun i u=>by simp [u]
 refine⟨⟨by rw[E];simpa using h1,by rw[E];exact h0,fun i u=>O i (by rw[E]at u;exact u),fun i o W=>?_,fun i u d hd=>?_,fun i u=>?_,fun i u S=>?_⟩,⟨fun i o W=>?_,fun i j oi oj u J U=>?_,fun i j oi oj t u J hx ht=>?_⟩,h1⟩
 .have:=h5 o (by simpa using Array.mem_of_getElem? W);simp only[xY,Bool.and_eq_true]at this
  simpa using this.1.1
 .rw[E]at u;exact h2 i u d hd
 .rw[E]at u ⊢;have:=h3 i oM;simp only[Bool.or_eq_true,decide_eq_true_eq,List.any_eq_true,List.mem_range,Bool.and_eq_true,List.contains_iff_mem]at this;rcases this with q|⟨j,X,q2,q3⟩
  .omega
  .exact⟨j,q2,X,q3⟩
 .rw[E]at u ⊢;have:=h4 i (by simpa using S);simp only[Bool.or_eq_true,decide_eq_true_eq,List.any_eq_true]at this;rcases this with q|⟨d,X,q2⟩
  .omega
  .exact⟨d,X,q2⟩
 .have:=h5 o (by simpa using Array.mem_of_getElem? W);simp only[xY,Bool.and_eq_true]at this;refine⟨by simpa using this.1.1,this.1.2,fun cs b e=>?_,fun c e=>?_⟩
  .rw[e]at this;cases this.2
  .rw[e]at this;cases this.2
 .have z:=(gA u).1;have D:=(gA J).1;rw[E]at z D;have:=h6 i z j D;rw[u,J]at this;simp only[Bool.and_eq_true,Bool.or_eq_true,decide_eq_true_eq]at this;exact this.1.resolve_left U
 .have z:=(gA u).1;have D:=(gA J).1;rw[E]at z D;have:=h6 i z j D;rw[u,J]at this;simp only[Bool.and_eq_true,ht,Bool.or_eq_true,Bool.not_eq_true',List.contains_iff_mem]at this;rcases this.2 with q|q
  .have h7:oi.op.operands.toList.any (EC t)=true:=List.any_eq_true.2 ⟨_,by simpa using hx,by simp [EC]⟩;rw[h7]at q;cases q
  .exact q
def U8(a:Act):List (Nat×Value)->Act
 |[]=>a
 |(d,v)::r=>U8 (a.put (some d) v) r
theorem dl:∀(u:List (Nat×Value))(a:Act),(U8 a u).tmps.size=a.tmps.size/\(U8 a u).defers=a.defers
 |[],a=>⟨rfl,rfl⟩
 |(d,v)::r,a=>by
  have:=dl r (a.put (some d) v);exact⟨this.1.trans (by simp [Act.put]),this.2⟩
theorem qG:∀(u:List (Nat×Value))(a:Act)(t:Nat),(∀p∈u,p.1≠t)->(U8 a u).tmps.getD t undef=a.tmps.getD t undef
 |[],a,t,h=>rfl
 |(d,v)::r,a,t,h=>by
  rw[U8,qG r _ t (fun p z=>h p (by simp [z]))];show(a.tmps.setIfInBounds d v).getD t undef=_;rw[Array.getD_eq_getD_getElem?,Array.getElem?_setIfInBounds,if_neg (h (d,v) sM),<-Array.getD_eq_getD_getElem?]
def oS(P:Program)(af:Act)(w:World):List Oper->Prop
 |[]=>True
 |o::r=>(match o.dst with|some t=>(execOp af.eval o).run P w= .ok (.value (af.tmps.getD t undef)) w|none=>False)/\oS P af w r
theorem qN{P:Program}{af:Act}{w:World}:∀{l:List Oper}{i:Nat}{o:Oper}{t:Tmp},oS P af w l->l[i]?=some o->o.dst=some t->(execOp af.eval o).run P w= .ok (.value (af.tmps.getD t undef)) w
 |[],i,o,t,h,hi,ht=>by cases hi
 |x::l,0,o,t,h,hi,ht=>by
  cases hi;have:=h.1;rw[ht]at this;exact this
 |x::l,i+1,o,t,h,hi,ht=>qN (l:=l) (i:=i) h.2 hi ht
def DI(m k:Nat):Array Bool:=(List.replicate m true++List.replicate k false).toArray
theorem oH{n id:Nat}{P:Program}(hm:P.follows .mixedOrders=true){l:List Oper}(m k:Nat)(hl:l.length=m+k)(hB:Kg l m=true){a0:Act}{w:World}(S:List (Nat×Value))(hv:(l.take m).map (·.dst)=S.map fun p=>some p.1) (a7:∀p∈S,p.1<a0.tmps.size)
  {Q:Exit->Act->World->Prop} (a2:oS P (U8 a0 S) w.drew (l.take m)) (a4:wpAnyIn Fence.wide n P .any l.toArray Q k (DI m k) (U8 a0 S) w.drew):(Code.region id l.toArray true).wpIn Fence.wide n P Q a0 w:=by
 obtain⟨hc,a8,a9⟩:=AR hB;have D:(l.take m).toArray.size=m:=by simp;omega
 refine wpIn_region_any hm ?_;have z:l.toArray.size=m+k:=by simpa using hl
 obtain⟨p1,p2⟩:=dl S a0;have X:∀(j:Nat)(o:Oper)(t:Tmp),(l.take m).toArray[j]?=some o->o.dst=some t->∃p∈S,p.1=t:=fun j o t J W=>by
  have U:some t∈(l.take m).map (·.dst):=List.mem_map.2 ⟨o,by simpa using Array.mem_of_getElem? J,W⟩;rw[hv,List.mem_map]at U;obtain⟨p,hp,e⟩:=U;exact⟨p,hp,Option.some.inj e⟩
 have O:wpAnyIn Fence.wide n P .any (l.take m).toArray (fun e a w'=>e= .normal/\a=U8 a0 S/\w'=w.drew) m (Array.replicate m false) a0 w.drew:=by
  refine FS a8 (af:=U8 a0 S) (a0:=a0) p1 p2 (fun t W=>qG S a0 t fun p hp e=>?_) (fun j o t J W=>?_) (fun i o t J W=>qN a2 (by simpa using J) W) ⟨rfl,rfl,rfl⟩ (fun L hL hr=>mr.least (fun i u d hd=>hc.back i u d (by unfold aj at hd ⊢;rw[hc.same i u];exact hd)) hL hr) m _ _ ⟨by rw[D];simp,rfl,rfl,fun j o t J W a1=>?_,fun _ _=>rfl⟩ ?_
  .have:some p.1∈(l.take m).map (·.dst):=by rw[hv];exact List.mem_map.2 ⟨p,hp,rfl⟩
   obtain⟨o,J,e2⟩:=List.mem_map.1 this;obtain⟨j,hj⟩:=List.mem_iff_getElem?.1 J;exact W j o (by simpa using hj) (by rw[e2,e])
  .obtain⟨p,hp,e⟩:=X j o t J W;rw[<-e];exact a7 p hp
  .have hj:=(gA J).1;rw[D]at hj;rw[Array.getD_eq_getD_getElem?,Array.getElem?_replicate,if_pos hj]at a1;cases a1
  .exact Nat.le_trans List.countP_le_length (by rw[List.length_range,D];exact lR)
 have key:=Kk (F:=Fence.wide) (n:=n) (P:=P) (Q:=Q) hc k (DI m k) (fun L L' r a6=>?_) (fun c a w' q=>by cases q.1) (fun a w' q=>by obtain⟨_,rfl,rfl⟩:=q;exact a4) (fun q=>by obtain⟨a,w',hq⟩:=q;cases hq.1) m (Array.replicate l.toArray.size false) (Array.replicate m false) a0 w.drew ⟨by simp,by rw[D];simp,fun i u=>?_,fun i u a5=>?_,fun i u a3=>?_⟩ ?_ O
 .rw[z]at key ⊢;exact key
 .apply Array.ext
  .rw[r.s1,z];simp [DI]
  .intro i h1 h2;have u:i<m+k:=by rw[r.s1,z]at h1;exact h1
   have e1:L.getD i true=L[i]:=by rw[Array.getD_eq_getD_getElem?,Array.getElem?_eq_getElem h1];rfl
   rw[<-e1];by_cases E:i<m
   .rw[r.eq i (by rw[D];exact E),a6 i (by rw[D];exact E)];simp only[DI,List.getElem_toArray];rw[List.getElem_append_left (by simpa using E),List.getElem_replicate]
   .rw[r.off i (by rw[D];omega) (by rw[z];exact u)];simp only[DI,List.getElem_toArray];rw[List.getElem_append_right (by simpa using Nat.le_of_not_lt E),List.getElem_replicate]
 .rw[D]at u;rw[Array.getD_eq_getD_getElem?,Array.getElem?_replicate,if_pos (by rw[z];omega),Array.getD_eq_getD_getElem?,Array.getElem?_replicate,if_pos u]
 .rw[Array.getD_eq_getD_getElem?,Array.getElem?_replicate,if_pos a5];rfl
 .rw[D]at u;rw[Array.getD_eq_getD_getElem?,Array.getElem?_replicate,if_pos u]at a3;cases a3
 .unfold unl;rw[D,List.countP_eq_length.2 (fun i u=>by
   rw[Array.getD_eq_getD_getElem?,Array.getElem?_replicate,if_pos (List.mem_range.1 u)];rfl),List.length_range]
end Go.Proofs.YtofbhlhamfkljaaGreatDoor.Ve
namespace Go.Proofs.YtofbhlhamfkljaaGreatDoor
open Go Go.RowKit Go.Shelf Ve
open Go.Proofs.Tryz (prog)
theorem Er:prog.funcs[84]?=some Tryz.f84:=kR
theorem Ii:Tryz.f84.ntmps=47:=kR
def ic(ss:Nat->Int)(size:Int)(a k:Nat):List (Nat×Nat):=((List.range k).filter fun b=>decide (ss a+ss b+1=size)).map fun b=>(a,b)
def aO(ss:Nat->Int)(size:Int)(m a:Nat):List (Nat×Nat):=(List.range a).flatMap fun a=>ic ss size a m
theorem ek(u:Nat->Int)(size:Int)(a k:Nat):ic u size a (k+1)=ic u size a k++(if u a+u k+1=size then [(a,k)] else []):=by
 unfold ic;rw[List.range_succ,List.filter_append,List.map_append,List.filter_cons,List.filter_nil];by_cases h:u a+u k+1=size
 .rw[if_pos (decide_eq_true h),if_pos h];rfl
 .rw[if_neg (by simpa using h),if_neg h];rfl
theorem jU(u:Nat->Int)(size:Int)(m a:Nat):aO u size m (a+1)=aO u size m a++ic u size a m:=by
 unfold aO;rw[List.range_succ,List.flatMap_append];simp
structure Rd(p75 i75 p3 i3 rb ro m:Nat)(ss:Nat->Int)(size:Int)(w:World):Prop where
 c75:w.cell? ⟨p75,i75,none⟩=some (.pointer (some ⟨rb,ro,none⟩))
 c3:w.cell? ⟨p3,i3,none⟩=some (.int .i64 size)
 row:∃b o len cap,m<=len/\w.cell? ⟨rb,ro+10,none⟩=some (.slice (some ⟨b,o,none⟩) len cap)/\∀i,i<m->w.cell? ⟨b,o+i,none⟩=some (.int .i64 (ss i))
theorem zX{n:Int}(u: -9223372036854775808<=n)(z:n<=9223372036854775807):IntKind.wrap .i64 n=n:=by
 simp [IntKind.wrap,IntKind.min,IntKind.max,IntKind.signed,IntKind.bits];omega
theorem cM{n:Nat}{P:Program}{ops:Array Oper}{Q:Exit->Act->World->Prop}{u:Nat}{L:Array Bool}{a:Act}{w:World}(i d:Nat){o:Oper}(v:Value)(S:Region.noSelect ops=true)
  (z:(Region.free .any ops L i&&(Region.ready .any ops L).contains i)=true) (O:ops[i]?=some o) (J:o.dst=some d) (D:∀c a w,Q (.panic c) (a.put (some d) v) w->Q (.panic c) a w) (E:∀w,o.about P w a.eval=none) (U:Yields P ops o v a) (h:wpAnyIn Fence.wide n P .any ops Q u (L.setIfInBounds i true) (a.put (some d) v) w):wpAnyIn Fence.wide n P .any ops Q (u+1) L a w:=by
 simp only[Bool.and_eq_true]at z;rw[<-J]at h D;exact wpAnyIn_take rfl O S z.1 z.2 D ⟨U,E⟩ h
theorem oX{n:Nat}{P:Program}{ops:Array Oper}{Q:Exit->Act->World->Prop}{u:Nat}{L:Array Bool}{a:Act}{w:World}{i:Nat}{o:Oper}(E:Region.ready .any ops L=[i])(J:ops[i]?=some o)
  (h:if Region.wanted o (yielded ops a.tmps) then o.uponIn Fence.wide n P a (wpAnyIn Fence.wide n P .any ops Q u (L.setIfInBounds i true)) Q ((execOp a.eval o).run P w) else wpAnyIn Fence.wide n P .any ops Q u (L.setIfInBounds i true) (a.put o.dst undef) w):wpAnyIn Fence.wide n P .any ops Q (u+1) L a w:=by
 refine⟨fun q=>(by rw[E]at q;cases q),fun j D=>?_⟩;rw[E,List.mem_singleton]at D;subst D;unfold wpOpIn;simp only[J];split
 .rename_i z;rw[if_pos z]at h;exact⟨fun _ _=>trivial,h⟩
 .rename_i z;rw[if_neg z]at h;exact⟨fun _ _=>trivial,h⟩
theorem oY{n:Nat}{P:Program}{ops:Array Oper}{Q:Exit->Act->World->Prop}{u:Nat}{L:Array Bool}{a:Act}{w:World}(i d:Nat){o:Oper}(v:Value)(J:Region.ready .any ops L=[i])(E:ops[i]?=some o)(D:o.dst=some d)(O:Region.wanted o (yielded ops a.tmps)=true)
  (z:(execOp a.eval o).run P w= .ok (.value v) w) (h:wpAnyIn Fence.wide n P .any ops Q u (L.setIfInBounds i true) (a.put (some d) v) w):wpAnyIn Fence.wide n P .any ops Q (u+1) L a w:=
 oX J E (by rw[if_pos O,z,Oper.uponIn_value,D];exact h)
theorem qS{n:Nat}{P:Program}{ops:Array Oper}{Q:Exit->Act->World->Prop}{u:Nat}{L:Array Bool}{a:Act}{w:World}(i d:Nat){o:Oper}(E:Region.ready .any ops L=[i])(D:ops[i]?=some o)(z:o.dst=some d)(J:Region.wanted o (yielded ops a.tmps)=false)
  (h:wpAnyIn Fence.wide n P .any ops Q u (L.setIfInBounds i true) (a.put (some d) undef) w):wpAnyIn Fence.wide n P .any ops Q (u+1) L a w:=
 oX E D (by rw[J,z];exact h)
theorem qT{n:Nat}{P:Program}{ops:Array Oper}{Q:Exit->Act->World->Prop}{L:Array Bool}{a:Act}{w:World}(u:Region.ready .any ops L=[])(h:Q .normal a w):wpAnyIn Fence.wide n P .any ops Q 0 L a w:=⟨u,h⟩
theorem yN{n:Nat}{P:Program}{ops:Array Oper}{Q:Exit->Act->World->Prop}{u:Nat}{L:Array Bool}{a:Act}{w:World}(i d:Nat){o:Oper}{l:Nat}{E:FuncId}{tmps:Array Value}{assign body:Code}{R:Ending->World->Prop}(X:Region.ready .any ops L=[i])(W:ops[i]?=some o)(S:o.dst=some d)(hw:Region.wanted o (yielded ops a.tmps)=true)
  (z:(execOp a.eval o).run P w= .ok (.round l E tmps assign body) w) (O:RoundIn Fence.wide (n-1) P l E tmps assign body w R) (h:∀e D,R e D->∃v,e= .returned v/\wpAnyIn Fence.wide n P .any ops Q u (L.setIfInBounds i true) (a.put (some d) v) D):wpAnyIn Fence.wide n P .any ops Q (u+1) L a w:=
 oX X W (by
  rw[if_pos hw,z,Oper.uponIn_round];refine⟨fun q=>(by cases q),O.mono fun e D U=>?_⟩;obtain⟨v,rfl,J⟩:=h e D U;rw[S];exact J)
def lkV:List (Nat×Value)->Nat->Option Value
 |[],_=>none
 |(d,v)::r,t=>if d=t then some v else lkV r t
theorem cJ:∀(u:List (Nat×Value))(a:Act)(t:Nat),(u.map (·.1)).Nodup->(∀p∈u,p.1<a.tmps.size)->(U8 a u).tmps[t]?.getD undef=(lkV u t).getD (a.tmps[t]?.getD undef)
 |[],a,t,_,_=>rfl
 |(d,v)::r,a,t,h,hl=>by
  rw[List.map_cons,List.nodup_cons]at h;have D:∀p∈r,p.1<(a.put (some d) v).tmps.size:=fun p E=>by
   show p.1<(a.tmps.setIfInBounds d v).size;rw[Array.size_setIfInBounds];exact hl p (by simp [E])
  have O:=cJ r (a.put (some d) v) t h.2 D;rw[U8,O,lkV];have E:(a.put (some d) v).tmps[t]?=(a.tmps.setIfInBounds d v)[t]?:=rfl;rw[E,Array.getElem?_setIfInBounds];by_cases z:d=t
  .subst z;have S:lkV r d=none:=by
    have:∀r:List (Nat×Value),d∉r.map (·.1)->lkV r d=none:=by
     intro r;induction r with
     |nil=>intro _;rfl
     |cons x r O=>
      intro J;simp only[List.map_cons,List.mem_cons,not_or]at J;rw[lkV,if_neg (fun q=>J.1 q.symm)];exact O J.2
    exact this r h.1
   rw[S,if_pos rfl,if_pos rfl,if_pos (hl (d,v) sM)];rfl
  .rw[if_neg z,if_neg z]
def dK(id:Nat):Code->List Oper
 | .region k ops _=>if k=id then ops.toList else []
 | .seq a b=>dK id a++dK id b
 | .cond _ a b=>dK id a++dK id b
 | .block _ a| .loop a| .scope a=>dK id a
 |_=>[]
noncomputable def c84:Code:=Tryz.f84.body.getD .skip
set_option maxRecDepth 100000 in
set_option maxHeartbeats 2000000 in
theorem Iz(n:Nat)(a0:Act)(hsz:a0.tmps.size=47)(w:World)(Q:Exit->Act->World->Prop)(hQ:∀c a(d:Nat) v w,Q (.panic c) (a.put (some d) v) w->Q (.panic c) a w) (yl:Nat) (p75 i75 p3 i3 rb ro b o len cap k q:Nat) (x y size:Int) (hx:0<=x/\x<=1000000) (hy:0<=y/\y<=1000000) (hk:k<len) (hq:q<len)
  (e0:a0.tmps[0]?.getD undef= .func (.yield yl) #[] #[]) (e1:a0.tmps[1]?.getD undef= .pointer (some ⟨p75,i75,none⟩)) (e2:a0.tmps[2]?.getD undef= .pointer (some ⟨p3,i3,none⟩)) (e5:a0.tmps[5]?.getD undef=iV k) (e6:a0.tmps[6]?.getD undef=iV q)
  (c75:w.cell? ⟨p75,i75,none⟩=some (.pointer (some ⟨rb,ro,none⟩))) (c3:w.cell? ⟨p3,i3,none⟩=some (.int .i64 size)) (c10:w.cell? ⟨rb,ro+10,none⟩=some (.slice (some ⟨b,o,none⟩) len cap)) (ca:w.cell? ⟨b,o+k,none⟩=some (.int .i64 x)) (cb:w.cell? ⟨b,o+q,none⟩=some (.int .i64 y))
  (hno:x+y+1≠size->∀a',a'.tmps.size=47->a'.defers=a0.defers->(∀t,(t<20\/45<=t)->a'.tmps.getD t undef=a0.tmps.getD t undef)->a'.tmps.getD 44 undef= .bool false->Q .normal a' w.drew)
  (hyes:x+y+1=size->YieldAt Fence.wide (n-1) prog yl #[iV k,iV q] w.drew fun e W'=>∃g:Bool,e= .returned (.bool g)/\∀a',a'.tmps.size=47->a'.defers=a0.defers->(∀t,(t<20\/45<=t)->a'.tmps.getD t undef=a0.tmps.getD t undef)->a'.tmps.getD 44 undef= .bool (!g)->Q .normal a' W')
  :(Code.region 7 (dK 7 c84).toArray true).wpIn Fence.wide n prog Q a0 w:=by
 have hmix:prog.follows .mixedOrders=true:=kR;have v1:IntKind.i64.wrap (x+y)=x+y:=zX oM oM;have v2:IntKind.i64.wrap (x+y+1)=x+y+1:=zX oM oM;have v3:x+y+1=size->IntKind.i64.wrap size=size:=fun q=>by rw[q]at v2;exact v2
 have nk:¬len<=k:=oM;have nq:¬len<=q:=oM;by_cases hsum:x+y+1=size
 .refine oH hmix 19 6 kR kR [(20,.pointer (some ⟨rb,ro,none⟩)),(21,.pointer (some ⟨rb,ro,none⟩)),(22,.pointer (some ⟨rb,ro+10,none⟩)),(23,.slice (some ⟨b,o,none⟩) len cap),(24,iV k),(25,.pointer (some ⟨b,o+k,none⟩)),(26,iV x),(27,.pointer (some ⟨rb,ro,none⟩)),(28,.pointer (some ⟨rb,ro,none⟩)),(29,.pointer (some ⟨rb,ro+10,none⟩)),(30,.slice (some ⟨b,o,none⟩) len cap),(31,iV q),(32,.pointer (some ⟨b,o+q,none⟩)),(33,iV y),(34,iV (x+y)),(35,iV (x+y+1)),(36,iV size),(37,.bool true),(38,.bool true)] kR (by simp [hsz]) ?_ ?_
  .simp only[dK,c84,Tryz.f84,Option.getD_some,if_true,Nat.reduceEqDiff,if_false,List.nil_append,List.append_nil,oS,List.take_succ_cons,List.take_zero];refine⟨?_,?_,?_,?_,?_,?_,?_,?_,?_,?_,?_,?_,?_,?_,?_,?_,?_,?_,?_,trivial⟩
   all_goals generalize hvs:([(20,_),_,_,_,_,_,_,_,_,_,_,_,_,_,_,_,_,_,_]:List (Nat×Value))=vs
   all_goals
    have hget:∀t,(U8 a0 vs).tmps[t]?.getD undef=(lkV vs t).getD (a0.tmps[t]?.getD undef):=fun t=>cJ vs a0 t (by subst hvs;simp) (by subst hvs;simp [hsz]);generalize U8 a0 vs=af at hget ⊢;subst hvs;simp [go_sem,hget,lkV,e1,e2,e5,e6,c75,c3,c10,ca,cb,v1,v2,hsum,nk,nq,v3]
  .generalize hvs:([(20,_),_,_,_,_,_,_,_,_,_,_,_,_,_,_,_,_,_,_]:List (Nat×Value))=vs;have hget:∀t,(U8 a0 vs).tmps[t]?.getD undef=(lkV vs t).getD (a0.tmps[t]?.getD undef):=fun t=>cJ vs a0 t (by subst hvs;simp) (by subst hvs;simp [hsz]);have hsf:=dl vs a0;generalize U8 a0 vs=af at hget hsf ⊢;rw[hsz]at hsf;have h38:af.tmps[38]?=some (.bool true):=by
    have:=hget 38;rw[Array.getElem?_eq_getElem oM]at this ⊢;subst hvs
    simpa [lkV] using this
   have h38b:af.tmps[38]'oM= .bool true:=by rw[Array.getElem?_eq_getElem oM]at h38;exact Option.some.inj h38
   have hlow:∀t,t<20->af.tmps[t]?.getD undef=a0.tmps[t]?.getD undef:=fun t ht=>by
    have h2:=hget t;have h3:lkV vs t=none:=by
     subst hvs;simp only[lkV]
     repeat rw[if_neg oM]
    rw[h3]at h2;exact h2
   have g0:=(hlow 0 oM).trans e0;have g5:=(hlow 5 oM).trans e5;have g6:=(hlow 6 oM).trans e6;obtain⟨fn,tmps,assign,body,hyr,hR⟩:=hyes hsum;simp only[dK,c84,Tryz.f84,Option.getD_some,if_true,Nat.reduceEqDiff,if_false,List.nil_append,List.append_nil];refine cM 19 39 (.func (.yield yl) #[] #[]) kR kR rfl rfl (fun _ _ _ h=>hQ _ _ _ _ _ h) (fun _=>rfl) (.inl ⟨by simp [Region.wanted,yielded,h38],fun w=>by simp [go_sem,g0]⟩) ?_;refine cM 20 40 (.int .i64 k) kR kR rfl rfl (fun _ _ _ h=>hQ _ _ _ _ _ h) (fun _=>rfl) (.inl ⟨by simp [Region.wanted,yielded,h38,Act.put],fun w=>by simp [go_sem,g5,Act.put,Array.getElem?_setIfInBounds]⟩) ?_;refine cM 21 41 (.int .i64 q) kR kR rfl rfl (fun _ _ _ h=>hQ _ _ _ _ _ h) (fun _=>rfl) (.inl ⟨by simp [Region.wanted,yielded,h38,Act.put],fun w=>by simp [go_sem,g6,Act.put,Array.getElem?_setIfInBounds]⟩) ?_;refine yN 22 42 kR rfl rfl (by simp [Region.wanted,yielded,h38,Act.put]) ?_ hR ?_
   .simp [go_sem,Act.put,hsf.1,hyr]
   .rintro e W' ⟨g,rfl,hg⟩;refine⟨_,rfl,?_⟩;refine oY 23 43 (.bool (!g)) kR rfl rfl (by simp [Region.wanted,yielded,h38,Act.put]) ?_ ?_
    .simp [go_sem,Act.put,hsf.1]
    .refine oY 24 44 (.bool (!g)) kR rfl rfl (by simp [Region.wanted]) ?_ ?_
     .simp [go_sem,Act.put,h38,h38b,hsf.1]
     .refine qT kR ?_;refine hg _ ?_ ?_ (fun t ht=>?_) ?_
      .simp [Act.put,hsf.1]
      .simp [Act.put,hsf.2]
      .have h2:=hget t;have h3:lkV vs t=none:=by
        subst hvs;simp only[lkV]
        repeat rw[if_neg oM]
       rw[h3]at h2;simp only[Act.put,Array.getD_eq_getD_getElem?,Array.getElem?_setIfInBounds];rw[if_neg (show¬44=t from oM),if_neg (show¬43=t from oM),if_neg (show¬42=t from oM),if_neg (show¬41=t from oM),if_neg (show¬40=t from oM),if_neg (show¬39=t from oM)];exact h2
      .simp [Act.put,hsf.1,Array.getD_eq_getD_getElem?]
 .refine oH hmix 19 6 kR kR [(20,.pointer (some ⟨rb,ro,none⟩)),(21,.pointer (some ⟨rb,ro,none⟩)),(22,.pointer (some ⟨rb,ro+10,none⟩)),(23,.slice (some ⟨b,o,none⟩) len cap),(24,iV k),(25,.pointer (some ⟨b,o+k,none⟩)),(26,iV x),(27,.pointer (some ⟨rb,ro,none⟩)),(28,.pointer (some ⟨rb,ro,none⟩)),(29,.pointer (some ⟨rb,ro+10,none⟩)),(30,.slice (some ⟨b,o,none⟩) len cap),(31,iV q),(32,.pointer (some ⟨b,o+q,none⟩)),(33,iV y),(34,iV (x+y)),(35,iV (x+y+1)),(36,iV size),(37,.bool false),(38,.bool false)] kR (by simp [hsz]) ?_ ?_
  .simp only[dK,c84,Tryz.f84,Option.getD_some,if_true,Nat.reduceEqDiff,if_false,List.nil_append,List.append_nil,oS,List.take_succ_cons,List.take_zero];refine⟨?_,?_,?_,?_,?_,?_,?_,?_,?_,?_,?_,?_,?_,?_,?_,?_,?_,?_,?_,trivial⟩
   all_goals generalize hvs:([(20,_),_,_,_,_,_,_,_,_,_,_,_,_,_,_,_,_,_,_]:List (Nat×Value))=vs
   all_goals
    have hget:∀t,(U8 a0 vs).tmps[t]?.getD undef=(lkV vs t).getD (a0.tmps[t]?.getD undef):=fun t=>cJ vs a0 t (by subst hvs;simp) (by subst hvs;simp [hsz]);generalize U8 a0 vs=af at hget ⊢;subst hvs;simp [go_sem,hget,lkV,e1,e2,e5,e6,c75,c3,c10,ca,cb,v1,v2,hsum,nk,nq]
  .generalize hvs:([(20,_),_,_,_,_,_,_,_,_,_,_,_,_,_,_,_,_,_,_]:List (Nat×Value))=vs;have hget:∀t,(U8 a0 vs).tmps[t]?.getD undef=(lkV vs t).getD (a0.tmps[t]?.getD undef):=fun t=>cJ vs a0 t (by subst hvs;simp) (by subst hvs;simp [hsz]);have hsf:=dl vs a0;generalize U8 a0 vs=af at hget hsf ⊢;rw[hsz]at hsf;have h38:af.tmps[38]?=some (.bool false):=by
    have:=hget 38;rw[Array.getElem?_eq_getElem oM]at this ⊢;subst hvs
    simpa [lkV] using this
   have h38b:af.tmps[38]'oM= .bool false:=by rw[Array.getElem?_eq_getElem oM]at h38;exact Option.some.inj h38
   simp only[dK,c84,Tryz.f84,Option.getD_some,if_true,Nat.reduceEqDiff,if_false,List.nil_append,List.append_nil];refine cM 19 39 undef kR kR rfl rfl (fun _ _ _ h=>hQ _ _ _ _ _ h) (fun _=>rfl) (.inr ⟨by simp [Region.wanted,yielded,h38],rfl⟩) ?_;refine cM 20 40 undef kR kR rfl rfl (fun _ _ _ h=>hQ _ _ _ _ _ h) (fun _=>rfl) (.inr ⟨by simp [Region.wanted,yielded,h38,Act.put],rfl⟩) ?_;refine cM 21 41 undef kR kR rfl rfl (fun _ _ _ h=>hQ _ _ _ _ _ h) (fun _=>rfl) (.inr ⟨by simp [Region.wanted,yielded,h38,Act.put],rfl⟩) ?_;refine qS 22 42 kR rfl rfl (by simp [Region.wanted,yielded,h38,Act.put]) ?_;refine qS 23 43 kR rfl rfl (by simp [Region.wanted,yielded,h38,Act.put]) ?_;refine oY 24 44 (.bool false) kR rfl rfl (by simp [Region.wanted]) ?_ ?_
   .simp [go_sem,Act.put,h38,h38b,hsf.1]
   .refine qT kR ?_;refine hno hsum _ ?_ ?_ (fun t ht=>?_) ?_
    .simp [Act.put,hsf.1]
    .simp [Act.put,hsf.2]
    .have h2:=hget t;have h3:lkV vs t=none:=by
      subst hvs;simp only[lkV]
      repeat rw[if_neg oM]
     rw[h3]at h2;simp only[Act.put,Array.getD_eq_getD_getElem?,Array.getElem?_setIfInBounds];rw[if_neg (show¬44=t from oM),if_neg (show¬43=t from oM),if_neg (show¬42=t from oM),if_neg (show¬41=t from oM),if_neg (show¬40=t from oM),if_neg (show¬39=t from oM)];exact h2
    .simp [Act.put,hsf.1,Array.getD_eq_getD_getElem?]
theorem FA(u:Nat->Int)(size:Int)(a k m:Nat)(h:k<=m):ic u size a k<+:ic u size a m:=by
 induction m with
 |zero=>
  have:k=0:=oM;rw[this];exact List.prefix_rfl
 |succ m D=>
  by_cases z:k=m+1
  .rw[z];exact List.prefix_rfl
  .rw[ek];exact(D oM).trans (List.prefix_append _ _)
theorem te(u:Nat->Int)(size:Int)(m a k:Nat)(h:a<m)(D:k<=m):aO u size m a++ic u size a k<+:aO u size m m:=by
 have:∀d,a+1+d<=m->aO u size m (a+1)<+:aO u size m (a+1+d):=by
  intro d;induction d with
  |zero=>intro _;exact List.prefix_rfl
  |succ d E=>
   intro J;rw[show a+1+(d+1)=(a+1+d)+1 from oM,jU u size m (a+1+d)];exact(E oM).trans (List.prefix_append _ _)
 have z:=this (m-(a+1)) oM;rw[show a+1+(m-(a+1))=m from oM]at z;refine List.IsPrefix.trans ?_ z;rw[jU];exact(List.prefix_append_right_inj _).2 (FA u size a k m D)
theorem Rd.drew{z u O J S U m:Nat}{W:Nat->Int}{size:Int}{w:World}(h:Rd z u O J S U m W size w):Rd z u O J S U m W size w.drew:=by
 obtain⟨X,h2,b,o,E,D,h3,h4,h5⟩:=h;exact⟨X,h2,b,o,E,D,h3,h4,h5⟩
theorem mw(a0 a':Act)(b:Value)(h0:a0.tmps.size=47)(s1:a'.tmps.size=47)(s2:a'.defers=a0.defers)(s3:∀t,(t<20\/45<=t)->a'.tmps.getD t undef=a0.tmps.getD t undef) (s4:a'.tmps.getD 44 undef=b):
  ∃u z D E J O S U W X a1 a2 a3 a4 a5 a6 a7 a8 a9 b0 b1 b2 b3 b4:Value,a'=U8 a0 [(20,u),(21,z),(22,D),(23,E),(24,J),(25,O),(26,S),(27,U),(28,W),(29,X),(30,a1),(31,a2),(32,a3),(33,a4),(34,a5),(35,a6),(36,a7),(37,a8),(38,a9),(39,b0),(40,b1),(41,b2),(42,b3),(43,b4),(44,b)]:=by
 refine⟨a'.tmps.getD 20 undef,a'.tmps.getD 21 undef,a'.tmps.getD 22 undef,a'.tmps.getD 23 undef,a'.tmps.getD 24 undef,a'.tmps.getD 25 undef,a'.tmps.getD 26 undef,a'.tmps.getD 27 undef,a'.tmps.getD 28 undef,a'.tmps.getD 29 undef,a'.tmps.getD 30 undef,a'.tmps.getD 31 undef,a'.tmps.getD 32 undef,a'.tmps.getD 33 undef,a'.tmps.getD 34 undef,a'.tmps.getD 35 undef,a'.tmps.getD 36 undef,a'.tmps.getD 37 undef,a'.tmps.getD 38 undef,a'.tmps.getD 39 undef,a'.tmps.getD 40 undef,a'.tmps.getD 41 undef,a'.tmps.getD 42 undef,a'.tmps.getD 43 undef,?_⟩;obtain⟨p1,p2⟩:=dl [(20,a'.tmps.getD 20 undef),(21,a'.tmps.getD 21 undef),(22,a'.tmps.getD 22 undef),(23,a'.tmps.getD 23 undef),(24,a'.tmps.getD 24 undef),(25,a'.tmps.getD 25 undef),(26,a'.tmps.getD 26 undef),(27,a'.tmps.getD 27 undef),(28,a'.tmps.getD 28 undef),(29,a'.tmps.getD 29 undef),(30,a'.tmps.getD 30 undef),(31,a'.tmps.getD 31 undef),(32,a'.tmps.getD 32 undef),(33,a'.tmps.getD 33 undef),(34,a'.tmps.getD 34 undef),(35,a'.tmps.getD 35 undef),(36,a'.tmps.getD 36 undef),(37,a'.tmps.getD 37 undef),(38,a'.tmps.getD 38 undef),(39,a'.tmps.getD 39 undef),(40,a'.tmps.getD 40 undef),(41,a'.tmps.getD 41 undef),(42,a'.tmps.getD 42 undef),(43,a'.tmps.getD 43 undef),(44,b)] a0;refine yX (by rw[p1,s1,h0]) (by rw[p2,s2]) fun t=>?_;have hg:=cJ [(20,a'.tmps.getD 20 undef),(21,a'.tmps.getD 21 undef),(22,a'.tmps.getD 22 undef),(23,a'.tmps.getD 23 undef),(24,a'.tmps.getD 24 undef),(25,a'.tmps.getD 25 undef),(26,a'.tmps.getD 26 undef),(27,a'.tmps.getD 27 undef),(28,a'.tmps.getD 28 undef),(29,a'.tmps.getD 29 undef),(30,a'.tmps.getD 30 undef),(31,a'.tmps.getD 31 undef),(32,a'.tmps.getD 32 undef),(33,a'.tmps.getD 33 undef),(34,a'.tmps.getD 34 undef),(35,a'.tmps.getD 35 undef),(36,a'.tmps.getD 36 undef),(37,a'.tmps.getD 37 undef),(38,a'.tmps.getD 38 undef),(39,a'.tmps.getD 39 undef),(40,a'.tmps.getD 40 undef),(41,a'.tmps.getD 41 undef),(42,a'.tmps.getD 42 undef),(43,a'.tmps.getD 43 undef),(44,b)] a0 t sM (by simp [h0]);rw[Array.getD_eq_getD_getElem?,Array.getD_eq_getD_getElem?,hg,<-Array.getD_eq_getD_getElem?,<-Array.getD_eq_getD_getElem?];by_cases ht:t<20\/45<=t
 .rw[s3 t ht];have:lkV [(20,a'.tmps.getD 20 undef),(21,a'.tmps.getD 21 undef),(22,a'.tmps.getD 22 undef),(23,a'.tmps.getD 23 undef),(24,a'.tmps.getD 24 undef),(25,a'.tmps.getD 25 undef),(26,a'.tmps.getD 26 undef),(27,a'.tmps.getD 27 undef),(28,a'.tmps.getD 28 undef),(29,a'.tmps.getD 29 undef),(30,a'.tmps.getD 30 undef),(31,a'.tmps.getD 31 undef),(32,a'.tmps.getD 32 undef),(33,a'.tmps.getD 33 undef),(34,a'.tmps.getD 34 undef),(35,a'.tmps.getD 35 undef),(36,a'.tmps.getD 36 undef),(37,a'.tmps.getD 37 undef),(38,a'.tmps.getD 38 undef),(39,a'.tmps.getD 39 undef),(40,a'.tmps.getD 40 undef),(41,a'.tmps.getD 41 undef),(42,a'.tmps.getD 42 undef),(43,a'.tmps.getD 43 undef),(44,b)] t=none:=by
   simp only[lkV]
   repeat rw[if_neg oM]
  rw[this];rfl
 .have b5:20<=t:=oM;have b6:t<=44:=oM;have:t=20\/t=21\/t=22\/t=23\/t=24\/t=25\/t=26\/t=27\/t=28\/t=29\/t=30\/t=31\/t=32\/t=33\/t=34\/t=35\/t=36\/t=37\/t=38\/t=39\/t=40\/t=41\/t=42\/t=43\/t=44:=oM;rcases this with rfl|rfl|rfl|rfl|rfl|rfl|rfl|rfl|rfl|rfl|rfl|rfl|rfl|rfl|rfl|rfl|rfl|rfl|rfl|rfl|rfl|rfl|rfl|rfl|rfl<;>first|rfl|exact s4
set_option maxRecDepth 100000 in
set_option maxHeartbeats 4000000 in
theorem Ca(n:Nat)(l:Nat)(p75 i75 p3 i3:Nat)(rb ro:Nat)(m:Nat)(ss:Nat->Int)(size:Int)(J Jx:List (Nat×Nat)->World->Prop)(hm:m<=1000)(hss:∀i,0<=ss i/\ss i<=1000000)
  (hJd:∀pre w,J pre w->J pre w.drew)
  (hY:∀pre(x:Nat×Nat) W,(pre++[x])<+:aO ss size m m->J pre W->YieldAt Fence.wide (n-1) prog l #[iV (x.1:Int),iV (x.2:Int)] W fun e W'=>
   (e= .returned (.bool true)/\J (pre++[x]) W'/\(Rd p75 i75 p3 i3 rb ro m ss size W->Rd p75 i75 p3 i3 rb ro m ss size W'))\/(e= .returned (.bool false)/\Jx (pre++[x]) W'))
  (W:World) (hR:Rd p75 i75 p3 i3 rb ro m ss size W) (sa:Option Addr) (sc:Nat) (hs:W.cell? ⟨rb,ro+9,none⟩=some (.slice sa m sc)) (h0:J [] W):
  CallsIn Fence.wide n prog 84 #[.func (.yield l) #[] #[],.pointer (some ⟨p75,i75,none⟩),.pointer (some ⟨p3,i3,none⟩)] W fun e W'=>(∃v,e= .returned v)/\(J (aO ss size m m) W'\/∃pre,pre<+:aO ss size m m/\Jx pre W'):=by
 have hB:=hR.c75;refine callsIn_of_wp Er rfl trivial ?_ rfl;simp only[Ii,List.size_toArray,List.length_cons,List.length_nil,Nat.reduceAdd,Nat.reduceSub,Array.replicate_succ,Array.replicate_zero,List.push_toArray,List.append_toArray,List.nil_append,List.cons_append]
 gi_wp2
 gi_loopw [13] (fun i wr=>∃k:Nat,k<=m/\i=iV k/\J (aO ss size m k) wr/\Rd p75 i75 p3 i3 rb ro m ss size wr)
  (fun i _=>m-(intOf i).toNat)
 case atStart=>exact⟨0,Nat.zero_le _,rfl,h0,hR⟩
 case round=>
  obtain⟨k,hk,rfl,hJ1,hR1⟩:=hrel;by_cases hlt:k<m
  .gi_wp2
   gi_loopw [17] (fun i wr=>∃q:Nat,q<=m/\i=iV q/\J (aO ss size m k++ic ss size k q) wr/\Rd p75 i75 p3 i3 rb ro m ss size wr)
    (fun i _=>m-(intOf i).toNat)
   case atStart=>exact⟨0,Nat.zero_le _,rfl,by simpa [ic] using hJ1,hR1⟩
   case round=>
    obtain⟨q,hq,rfl,hJ2,hR2⟩:=hrel;by_cases hlt2:q<m
    .have hR3:=hR2.drew;obtain⟨c75,c3,b,o,len,cap,hml,c10,cz⟩:=hR2;have ca:=cz k hlt;have cb:=cz q hlt2;have h1:=hss k;have h2:=hss q
     gi_wp2
     refine Iz n _ rfl _ _ (fun _ _ _ _ _ h=>h) l p75 i75 p3 i3 rb ro b o len cap k q (ss k) (ss q) size h1 h2 oM oM rfl rfl rfl rfl rfl c75 c3 c10 ca cb ?_ ?_
     .intro hne a' s1 s2 s3 s4;obtain⟨y20,y21,y22,y23,y24,y25,y26,y27,y28,y29,y30,y31,y32,y33,y34,y35,y36,y37,y38,y39,y40,y41,y42,y43,rfl⟩:=mw _ a' _ rfl s1 s2 s3 s4;simp only[U8,Act.put,List.setIfInBounds_toArray,List.set_cons_succ,List.set_cons_zero]
      gi_wp2
      refine⟨⟨q+1,oM,by simp,?_,hR3⟩,by simp [intOf];omega⟩;rw[ek,if_neg hne,List.append_nil];exact hJd _ _ hJ2
     .intro hsum;obtain⟨fn,tmps,assign,body,hy,hRr⟩:=hY _ (k,q) wr.drew (by
       have:=te ss size m k (q+1) hlt hlt2
       rwa [ek,if_pos hsum,<-List.append_assoc]at this) (hJd _ _ hJ2)
      refine⟨fn,tmps,assign,body,hy,hRr.mono ?_⟩;rintro e W3 (⟨rfl,hJ3,hK3⟩|⟨rfl,hJx3⟩)
      .have hR4:=hK3 hR3;refine⟨true,rfl,fun a' s1 s2 s3 s4=>?_⟩;obtain⟨y20,y21,y22,y23,y24,y25,y26,y27,y28,y29,y30,y31,y32,y33,y34,y35,y36,y37,y38,y39,y40,y41,y42,y43,rfl⟩:=mw _ a' _ rfl s1 s2 s3 s4;simp only[U8,Act.put,List.setIfInBounds_toArray,List.set_cons_succ,List.set_cons_zero,Bool.not_true]
       gi_wp2
       refine⟨⟨q+1,oM,by simp,?_,hR4⟩,by simp [intOf];omega⟩;rw[ek,if_pos hsum,<-List.append_assoc];exact hJ3
      .refine⟨false,rfl,fun a' s1 s2 s3 s4=>?_⟩;obtain⟨y20,y21,y22,y23,y24,y25,y26,y27,y28,y29,y30,y31,y32,y33,y34,y35,y36,y37,y38,y39,y40,y41,y42,y43,rfl⟩:=mw _ a' _ rfl s1 s2 s3 s4;simp only[U8,Act.put,List.setIfInBounds_toArray,List.set_cons_succ,List.set_cons_zero,Bool.not_false]
       gi_wp2
       refine bodyPost_ret (results_none rfl _ _ _) rfl ?_;refine⟨⟨_,rfl⟩,.inr ⟨_,?_,hJx3⟩⟩;have:=te ss size m k (q+1) hlt hlt2
       rwa [ek,if_pos hsum,<-List.append_assoc]at this
    .have hqm:q=m:=oM
     gi_wp2
     refine⟨⟨k+1,oM,by simp,?_,hR2⟩,by simp [intOf];omega⟩;rw[jU,<-hqm];rw[<-hqm]at hJ2;exact hJ2
  .have hkm:k=m:=oM
   gi_wp2
   go_end0
   exact⟨⟨_,rfl⟩,.inl (by rw[hkm]at hJ1;exact hJ1)⟩
end Go.Proofs.YtofbhlhamfkljaaGreatDoor
namespace Go.Proofs.YtofbhlhamfkljaaGreatDoor.Ve
open Go Go.RowKit
open Go.Proofs.Tryz (prog)
def ldc(H:N7)(v:Value)(i:Nat):Option Value:=
 match v with
 | .pointer (some ⟨b,o,none⟩)=>match H.get b with
  |some (.cells c _ _)=>c[o+i]?
  |_=>none
 |_=>none
theorem zB{H:N7}{v:Value}{i:Nat}{x:Value}(h:ldc H v i=some x):∃b o c own sz,v= .pointer (some ⟨b,o,none⟩)/\H.get b=some (.cells c own sz)/\c[o+i]?=some x:=by
 unfold ldc at h;split at h
 .rename_i b o;split at h
  .rename_i c own sz u;exact⟨b,o,c,own,sz,rfl,u,h⟩
  .cases h
 .cases h
section
variable{base:Bs}{w0:World}{φ:List Loc}{w:World}
theorem Z5{H:N7}(z:WR base w0 φ H.bs w){v v':Value}(O:VR φ v v'){i:Nat}{x:Value}(h:ldc H v i=some x):∃p q y,v'= .pointer (some ⟨p,q,none⟩)/\w.cell? ⟨p,q+i,none⟩=some y/\VR φ x y:=by
 obtain⟨b,o,c,own,sz,rfl,E,S⟩:=zB h;cases O with
 |ptr J=>
  rename_i l;obtain⟨_,_,D,_⟩:=z.blk b _ l E J;obtain⟨y,U,u⟩:=D _ _ S;exact⟨_,_,y,rfl,by rw[Nat.add_assoc];exact U,u⟩
theorem MI{D:List Loc}(S:Ext φ D){H:N7}{v v' u:Value}{i:Nat}{x:Value}(h:ldc H v i=some x)(E:VR φ v v')(J:VR D v u):u=v':=by
 obtain⟨b,o,c,own,sz,rfl,U,_⟩:=zB h;cases E with
 |ptr O=>
  cases J with
  |ptr z=>
   have:=S _ _ O;rw[z]at this;cases this;rfl
end
def qc:Option Value->Int
 |some (.int .i64 n)=>n
 |_=>0
def lnA:Option Value->Nat
 |some (.slice _ n _)=>n
 |_=>0
def jg(n:Int):Int:=if 0<=n/\n<=1000000 then n else 0
theorem GM(n:Int):0<=jg n/\jg n<=1000000:=by unfold jg;split<;>omega
def atA(H:N7)(s:Option Value)(i:Nat):Option Value:=
 match s with
 |some (.slice (some a) _ _)=>ldc H (.pointer (some a)) i
 |_=>none
def okP(v75 v3 q:Value)(m:Nat)(ss:Nat->Int)(size:Int)(H:N7):Prop:=
 ldc H v75 0=some q/\ldc H v3 0=some (.int .i64 size)/\∃a len cap,ldc H q 10=some (.slice (some a) len cap)/\m<=len/\∀i,i<m->ldc H (.pointer (some a)) i=some (.int .i64 (ss i))
open Classical in
noncomputable def rY(e:Env)(H:N7):Option (List (Nat×Nat)×(N7->Prop)):=
 match e.get 11 with
 | .func (.func 84) fs cs=>
  let v75:=cs.getD 0 undef
  let v3:=cs.getD 1 undef
  let q:=(ldc H v75 0).getD undef
  let m:=lnA (ldc H q 9)
  let ss:=fun i=>jg (qc (atA H (ldc H q 10) i))
  let size:=qc (ldc H v3 0)
  if fs.size=0/\cs.size=2/\1<=m/\m<=1000/\(∃a c,ldc H q 9=some (.slice a m c))/\okP v75 v3 q m ss size H then some (aO ss size m m,okP v75 v3 q m ss size) else none
 |_=>none
theorem MV:dv prog 84:=⟨Tryz.f84,Er,kR,kR⟩
theorem LY:(Tryz.f34.name== "runtime.NumGoroutine")=false:=kR
theorem qL{φ:List Loc}{a:Option Addr}{m c:Nat}{v:Value}(z:1<=m)(h:VR φ (.slice a m c) v):∃a' u,v= .slice a' m u:=by
 cases h with
 |nilslice=>omega
 |slice0=>omega
 |exact=>exact⟨_,_,rfl⟩
 |slice=>exact⟨_,_,rfl⟩
theorem FN{φ:List Loc}{a:Addr}{m c:Nat}{v:Value}(D:1<=m)(h:VR φ (.slice (some a) m c) v):∃a' z,v= .slice (some a') m z/\VR φ (.pointer (some a)) (.pointer (some a')):=by
 cases h with
 |slice0=>omega
 |exact u=>exact⟨_,_,rfl,.ptr u⟩
 |slice u _ _=>exact⟨_,_,rfl,.ptr u⟩
theorem qD{base:Bs}{w0:World}{φ φ':List Loc}{w:World}{H H':N7}{O v3 q u J q':Value}{m:Nat}{ss:Nat->Int}{size:Int}(U:Ext φ φ')(hm:1<=m)(S:WR base w0 φ' H'.bs w)(h:okP O v3 q m ss size H')(h1:VR φ O u)(h2:VR φ v3 J)(h3:VR φ q q'){x:Value}(hq:ldc H q 9=some x){D z p3 i3 rb ro:Nat}
  (e1:u= .pointer (some ⟨D,z,none⟩)) (e2:J= .pointer (some ⟨p3,i3,none⟩)) (e3:q'= .pointer (some ⟨rb,ro,none⟩)):Rd D z p3 i3 rb ro m ss size w:=by
 subst e1 e2 e3;obtain⟨k1,k2,a,X,a1,k3,k4,k5⟩:=h;obtain⟨p,i,y,E,r2,r3⟩:=Z5 S (h1.mono U) k1;cases E;have:=MI U hq h3 r3;subst this;obtain⟨p,i,y,E,r4,r5⟩:=Z5 S (h2.mono U) k2;cases E;have:=r5.eq_na (by rfl);subst this;obtain⟨p,i,y,E,r6,r7⟩:=Z5 S (h3.mono U) k3;cases E;obtain⟨⟨ab,ao,ap⟩,c',rfl,r8⟩:=FN oM r7;have W:ap=none:=by cases r8;rfl
 subst W;refine⟨r2,r4,ab,ao,X,c',k4,r6,fun i hi=>?_⟩;obtain⟨p,j,y,t1,t2,t3⟩:=Z5 S r8 (k5 i hi);cases t1;have:=t3.eq_na (by rfl);subst this;exact t2
theorem PO{base:Bs}{w0:World}{φ:List Loc}{w:World}{a:Act}{e:Env}{H:N7}{L:List (Nat×Nat)}{ok:N7->Prop}(h:rY e H=some (L,ok))(hE:ER φ Tryz.f34.ntmps e a)(hW:WR base w0 φ H.bs w):
  ∃lb Rd,a.eval (.tmp 11)= .func (.func 84) #[] lb/\(∀φ' H' W',Ext φ φ'->WR base w0 φ' H'.bs W'->ok H'->Rd W')/\∀W0,WR base w0 φ H.bs W0->vV prog 84 lb Rd L W0:=by
 have hv:=hE.op (x:= .tmp 11) rfl;have h0:opv e (.tmp 11)=e.get 11:=rfl;rw[h0]at hv;unfold rY at h;split at h
 rotate_left
 .cases h
 rename_i fs cs a4;rw[a4]at hv;simp only at h;split at h
 rotate_left
 .cases h
 rename_i hc;cases h;obtain⟨c1,c2,c3,c4,⟨sa,sc,c5⟩,c6⟩:=hc;generalize hz:a.eval (.tmp 11)=z at hv;cases hv with
 |func g h1 h2 h3 h4=>
  rename_i D cs';have a5:D= #[]:=by
   apply Array.eq_empty_of_size_eq_zero;have:fs.toList.length=fs.size:=rfl;have:D.toList.length=D.size:=rfl;omega
  subst a5;have g0:cs.toList[0]?=some (cs.getD 0 undef):=by
   have:0<cs.size:=oM;simp [Array.getD_eq_getD_getElem?,this]
  have g1:cs.toList[1]?=some (cs.getD 1 undef):=by
   have:1<cs.size:=oM;simp [Array.getD_eq_getD_getElem?,this]
  obtain⟨u,m0,y0⟩:=VRs.get ⟨h3,h4⟩ g0;obtain⟨X,m1,y1⟩:=VRs.get ⟨h3,h4⟩ g1;have a3:cs'= #[u,X]:=by
   apply Array.toList_inj.1;have hl:cs'.toList.length=2:=by rw[<-h3];exact c2
   match hq:cs'.toList,hl with
   |[x,y],_=>
    rw[hq]at m0 m1;simp only[List.getElem?_cons_zero,List.getElem?_cons_succ,Option.some.injEq]at m0 m1;rw[m0,m1]
  subst a3;obtain⟨k1,k2,k3⟩:=c6;obtain⟨S,O,q',e1,r2,r3⟩:=Z5 hW y0 k1;obtain⟨p3,i3,_,e2,_,_⟩:=Z5 hW y1 k2;obtain⟨rb,ro,s9,e3,r9,a8⟩:=Z5 hW r3 c5;obtain⟨b5,b6,rfl⟩:=qL c3 a8;refine⟨#[u,X],Rd S O p3 i3 rb ro _ _ _,rfl,fun φ' H' W' hx a2 a6=>qD hx c3 a2 a6 y0 y1 r3 c5 e1 e2 e3,fun W0 E=>?_⟩;intro l J Jx a1 hY hJ;have hR:=qD (Ext.refl φ) c3 E ⟨k1,k2,k3⟩ y0 y1 r3 c5 e1 e2 e3;obtain⟨b2,b3,b4,f3,a9,U⟩:=Z5 E r3 c5;rw[e3]at f3;cases f3;obtain⟨b0,b1,rfl⟩:=qL c3 U;rw[e1,e2];exact Ca 2 l S O p3 i3 rb ro _ _ _ J Jx c4 (fun i=>GM _) a1 (fun a7 x W hp hj=>hY a7 x W hp hj) W0 hR b0 b1 a9 hJ
noncomputable def Eu:LV->N7->Option (Value×Option N7):=mi prog t6 zp zq mU mV qp 12 13 59 [.cell 4 4] rY
noncomputable def gh:Lib:=fun f=>if f=34 then some Eu else none
theorem zC:pP prog t6:=fun g f h=>by cases h
theorem Jz:prog.follows .mixedOrders=true:=kR
theorem HP:pP prog gh:=by
 intro g f h;unfold gh at h;split at h
 rotate_left
 .cases h
 rename_i D;cases h;subst D;have:=Fv (f:=34) Jz zC Lh JW LY Re Rf PP PQ Rg Rq MV (it:=rY) (g:= .tmp 11) fun h u z=>PO h u z;rw[Ro,Rv]at this;exact this
theorem aX{f:FuncId}{args:LV}{H:N7}{r:Value×Option N7}(h:CL prog t6 f args H=some r):CL prog gh f args H=some r:=by
 refine Gf (fun f=>?_) _ _ _ _ h;unfold gh;by_cases u:f=34
 .subst u;exact .inr ⟨rfl,PI⟩
 .rw[if_neg u];exact .inl rfl
theorem Qy(args:LV)(H:N7):CL prog gh 34 args H=Eu args H:=JI (by unfold gh;rw[if_pos rfl]) args H
theorem fW(size a b:Int):∀(l:List EvD)(i:Nat)(r:ReD),(M9 size a b l i r).1.strat=r.strat/\(M9 size a b l i r).1.labels=r.labels/\r.size<+:(M9 size a b l i r).1.size
 |[],i,r=>⟨rfl,rfl,List.prefix_rfl⟩
 |e::l,i,r=>by
  rw[M9];obtain⟨p1,p2,u,_⟩:=eF r (I4 r.strat e (r.sorts.getD a.toNat soZ) (r.sorts.getD b.toNat soZ)) size (i,a,b);split
  .split
   .obtain⟨z,D,E⟩:=fW size a b l (i+1) (am r (I4 r.strat e (r.sorts.getD a.toNat soZ) (r.sorts.getD b.toNat soZ)) size (i,a,b)).1;exact⟨z.trans p1,D.trans p2,u.trans E⟩
   .exact⟨p1,p2,u⟩
  .exact fW size a b l (i+1) r
def W7(size:Int):List (Nat×Nat)->ReD->ReD×Bool
 |[],r=>(r,true)
 |x::l,r=>if(M9 size x.1 x.2 r.labels 0 r).2 then W7 size l (M9 size x.1 x.2 r.labels 0 r).1 else((M9 size x.1 x.2 r.labels 0 r).1,false)
def fp(r:ReD)(size:Int):ReD×Bool:=W7 size (aO (fun i=>r.size.getD i 0) size r.sorts.length r.sorts.length) r
theorem wg{f g:Nat->Int}{size:Int}{m:Nat}(h:∀i,i<m->f i=g i):∀a,a<=m->aO f size m a=aO g size m a:=by
 intro a D;unfold aO;have:∀x∈List.range a,ic f size x m=ic g size x m:=fun x u=>by
  unfold ic
  congr 1
  refine List.filter_congr fun y z=>?_;rw[h x (oN (List.mem_range.1 u)),h y (List.mem_range.1 z)]
 rw[List.flatMap_def,List.flatMap_def,List.map_congr_left this]
section
variable(Hs:N7)(lo K:Nat)(rb lw:Nat)(G:Nat->Prop)(rs:List Value)(vl:Value)(W0:List Value)(Hb:N7)(b2 b3 b4:Nat)(size:Int)(h0:0<=size)(n:Nat)(hbox:CN Hb rb lw W0 b2 b3 b4 size)(hlo:lo<=lw)(heq:∀j,j<lo->Hb.get j=Hs.get j)
include h0 hbox hlo heq
theorem IE(a b:Int)(e:Env)(H:N7)(r:ReD)(D E J:Value)(f2:e.get 2=pT b2)(f3:e.get 3=pT b3)(f4:e.get 4=pT b4)(f5:e.get 5=iV a)(f6:e.get 6=iV b)
  (S:U0 (QR Hs lo K false) (QR Hs lo K true) H rb lw G r rs vl D E J) (hT:aN rb lw W0 Hb [D,E,J] H) (a1:WfR r n):
  w7 (LE prog t6 mV e H) (fun o e H=>(o= .normal/\(M9 size a b r.labels 0 r).2=true/\∃D E J,U0 (QR Hs lo K false) (QR Hs lo K true) H rb lw G (M9 size a b r.labels 0 r).1 rs vl D E J/\aN rb lw W0 Hb [D,E,J] H/\WfR (M9 size a b r.labels 0 r).1 n)\/(o= .ret/\(M9 size a b r.labels 0 r).2=false/\H.get b4=cE [.bool false] 1/\i6 lw Hb H)):=by
 obtain⟨g2,g3,w4,g4⟩:=hbox.at_ hT;have gr:=S.g;obtain⟨q8,q9,a2,a3⟩:=S.at_;obtain⟨a4,O⟩:=eY (rs++[vl,D,E,J]);rw[<-O]at gr q8;obtain⟨va,vc,u⟩:=S.lb.slice;rw[u]at q8;refine J4 f2 g2 gr q8 ?_;refine j8 (F:=fun z=>w7 (inBlock 1 (inBlock 2 z)) _) (uM Hs lo K rb lw G rs vl W0 Hb b2 b3 b4 size a b h0 n hbox hlo heq va vc r.labels u (M9 size a b r.labels 0 r) (r.labels.length-0) _ _ ⟨0,r,D,E,J,rfl,Nat.zero_le _,f2,f3,f4,f5,f6,u.symm,rfl,rfl,rfl,S,hT,a1,by rw[List.drop_zero]⟩) ?_;rintro o' e' H' (⟨X,U,W⟩|⟨X,U,W⟩)
 .have:inBlock 1 (inBlock 2 (some (o',e',H')))=some (.normal,e',H'):=by rw[X];rfl
  rw[this,ez];exact .inl ⟨rfl,U,W⟩
 .have:inBlock 1 (inBlock 2 (some (o',e',H')))=some (.ret,e',H'):=by rw[X];rfl
  rw[this,ez];exact .inr ⟨rfl,U,W⟩
theorem vq(e:Env)(f2:e.get 2=pT b2)(f3:e.get 3=pT b3)(f4:e.get 4=pT b4)(ok:N7->Prop)(s0:List Int)(O:∀H r u z D,U0 (QR Hs lo K false) (QR Hs lo K true) H rb lw G r rs vl u z D->aN rb lw W0 Hb [u,z,D] H->s0<+:r.size->ok H):
  ∀(L:List (Nat×Nat))(H:N7)(r:ReD)(u z D:Value),U0 (QR Hs lo K false) (QR Hs lo K true) H rb lw G r rs vl u z D->aN rb lw W0 Hb [u,z,D] H->WfR r n->s0<+:r.size->
   ∃o H',bH prog t6 mU mV 12 13 e ok L H=some (o,H')/\((o= .normal/\(W7 size L r).2=true/\∃u z D,U0 (QR Hs lo K false) (QR Hs lo K true) H' rb lw G (W7 size L r).1 rs vl u z D/\aN rb lw W0 Hb [u,z,D] H'/\WfR (W7 size L r).1 n)\/(o= .ret/\(W7 size L r).2=false/\H'.get b4=cE [.bool false] 1/\i6 lw Hb H'))
 |[],H,r,u,z,D,hR,hT,hwf,hs=>⟨.normal,H,rfl,.inl ⟨rfl,rfl,u,z,D,hR,hT,hwf⟩⟩
 |x::L,H,r,u,z,D,hR,hT,hwf,hs=>by
  have hA:LE prog t6 mU ((13,iV (x.2:Int))::(12,iV (x.1:Int))::e) H=some (.normal,(6,iV (x.2:Int))::(5,iV (x.1:Int))::(13,iV (x.2:Int))::(12,iV (x.1:Int))::e,H):=by
   simp(maxSteps:=20000000) -dsimp (disch:=first|omega|(simp only[rH]<;>omega)|fail) only[↓ig,rQ,N3,sevalprocAttr,tyA,]
  obtain⟨o,e2,H2,hB,S⟩:=IE Hs lo K rb lw G rs vl W0 Hb b2 b3 b4 size h0 n hbox hlo heq x.1 x.2 ((6,iV (x.2:Int))::(5,iV (x.1:Int))::(13,iV (x.2:Int))::(12,iV (x.1:Int))::e) H r u z D f2 f3 f4 rfl rfl hR hT hwf;rcases S with⟨rfl,X,y1,y2,y3,E,J,W⟩|⟨rfl,X,h2,h3⟩
  .have U:s0<+:(M9 size x.1 x.2 r.labels 0 r).1.size:=hs.trans (fW size x.1 x.2 r.labels 0 r).2.2;obtain⟨o',H',k1,k2⟩:=vq e f2 f3 f4 ok s0 O L H2 _ y1 y2 y3 E J W U;refine⟨o',H',?_,?_⟩
   .simp only[bH,hA,hB,if_pos (O H2 _ y1 y2 y3 E J U)];exact k1
   .rw[W7,if_pos X];exact k2
  .refine⟨.ret,H2,?_,.inr ⟨rfl,?_,h2,h3⟩⟩
   .simp only[bH,hA,hB]
   .rw[W7,X];rfl
end
theorem HI{e:Env}{H:N7}{u D q:Value}{size:Int}{sa:Option Addr}{m c z E:Nat}{a:Addr}(X:e.get 11= .func (.func 84) #[] #[u,D])(h1:ldc H u 0=some q)(h3:ldc H D 0=some (.int .i64 size))(h9:ldc H q 9=some (.slice sa m c))(hm:1<=m/\m<=1000)(J:ldc H q 10=some (.slice (some a) z E))(S:m<=z)(W:Nat->Int)(U:∀i,i<m->ldc H (.pointer (some a)) i=some (.int .i64 (W i))) (hb:∀i,i<m->0<=W i/\W i<=1000000):
  rY e H=some (aO W size m m,okP u D q m (fun i=>jg (qc (atA H (ldc H q 10) i))) size):=by
 have hc:∀i,i<m->jg (qc (atA H (ldc H q 10) i))=W i:=fun i O=>by
  rw[J];show jg (qc (ldc H (.pointer (some a)) i))=_;rw[U i O,qc,jg,if_pos (hb i O)]
 have e9:lnA (ldc H q 9)=m:=by rw[h9];rfl
 have e3:qc (ldc H D 0)=size:=by rw[h3];rfl
 have e0:(#[u,D]:Array Value).getD 0 undef=u:=rfl;have e1:(#[u,D]:Array Value).getD 1 undef=D:=rfl;have eq:(ldc H u 0).getD undef=q:=by rw[h1];rfl
 unfold rY;simp only[X];rw[e0,e1,eq,e9,e3];rw[if_pos ⟨rfl,rfl,hm.1,hm.2,⟨sa,c,h9⟩,h1,h3,a,z,E,J,S,fun i O=>by show ldc H (.pointer (some a)) i=some (.int .i64 (jg (qc (atA H (ldc H q 10) i))));rw[hc i O];exact U i O⟩];rw[wg hc m (Nat.le_refl m)]
theorem JF{H:N7}{lo:Nat}{w:Value}{l:List Int}(J:u6 H lo 1 (w9 inE) w l)(h:1<=l.length):∃a c,w= .slice (some a) l.length c/\∀i,i<l.length->ldc H (.pointer (some a)) i=some (.int .i64 (l.getD i 0)):=by
 have u:=J.sl;obtain⟨sa,c,rfl⟩:=u.slice;obtain⟨_,nb,o,_,_,_,_,_,rfl,_,_,_,_,_,_⟩:=u.row (i:=0) oM;refine⟨_,c,rfl,fun i U=>?_⟩;obtain⟨y,a1,o',cs,own,el,hx,hd,E,X,S,W,D,O,rfl⟩:=u.row (i:=i) U;cases E;have z:=O 0 oM;rw[Nat.add_zero,Nat.mul_one]at z;unfold ldc;simp only[S,z];rw[List.getD_eq_getElem?_getD,hx];rfl
theorem U0.back{D E:LV->Q->Prop}{H H':N7}{rb lw:Nat}{G:Nat->Prop}{r r0:ReD}{rs:LV}{vl U W X w1 w2 w3:Value}(h:U0 D E H' rb lw G r rs vl U W X)(z:U0 D E H rb lw G r0 rs vl w1 w2 w3)(u:∀j,j<H.next->H'.get j=H.get j):U=w1/\W=w2/\X=w3/\U0 D E H rb lw G r rs vl w1 w2 w3:=by
 have J:=h.g;rw[u rb (u7 z.g),z.g]at J;simp only[Option.some.injEq,Blk.cells.injEq,List.append_cancel_left_eq,List.cons.injEq,and_true,true_and]at J;obtain⟨rfl,rfl,rfl⟩:=J;have O:∀j,G j->H.get j=H'.get j:=fun j hj=>(u j (z.fr j hj).1).symm;have S:∀w∈ [w1,w2,w3],∀b,l7 w b->H.get b=H'.get b:=fun w hw b hb=>(u b (z.inl hw hb).2.2).symm;exact⟨rfl,rfl,rfl,z.g,h.st.mono O (fun _ h=>h) iF iF,h.lb.mono O (fun _ h=>h) (fun _ _ q=>y9 _ _ _ _ _ _ q O (fun _ h=>h)),h.so.same (S w1 sM),h.sz.same (S w2 sM),h.ho.same (S w3 sM),h.ap,z.fr,z.nb⟩
theorem U0.side{O S:LV->Q->Prop}{H H':N7}{rb lw:Nat}{G:Nat->Prop}{r:ReD}{rs:LV}{vl w1 w2 w3:Value}(h:U0 O S H rb lw G r rs vl w1 w2 w3){b:Nat}(D:b≠rb/\¬G b/\∀w∈ [w1,w2,w3],¬l7 w b) (W:H.next<=H'.next) (u:∀j,j≠b->H'.get j=H.get j):U0 O S H' rb lw G r rs vl w1 w2 w3:=by
 have E:∀j,G j->H'.get j=H.get j:=fun j z=>u j fun q=>D.2.1 (q▸z);have J:∀w∈ [w1,w2,w3],∀j,l7 w j->H'.get j=H.get j:=fun w U j z=>u j fun q=>D.2.2 w U (q▸z);exact⟨(u rb fun q=>D.1 q.symm).trans h.g,h.st.mono E (fun _ h=>h) iF iF,h.lb.mono E (fun _ h=>h) (fun _ _ q=>y9 _ _ _ _ _ _ q E (fun _ h=>h)),h.so.same (J w1 sM),h.sz.same (J w2 sM),h.ho.same (J w3 sM),h.ap,fun j z=>by have:=h.fr j z;exact⟨oM,this.2⟩,h.nb⟩
theorem Qh(H:N7)(rb:Nat)(size:Int):CL prog t6 61 [pT rb,iV size] H=some (.func (.func 84) #[] #[pT H.next,pT (H.next+1)],some ⟨H.bs++[.cells [pT rb] true 1]++[.cells [iV size] true 1],min H.low H.next⟩):=by
 rw[j7 QQ rfl _ sM];refine J1 Qw ?_;rfl
def Gg(Hs:N7)(lo K:Nat)(rb lw:Nat)(G:Nat->Prop)(rs:LV)(vl w1 w2 w3:Value)(n:Nat)(H:N7)(z:ReD×Bool):Value->N7->Prop:=fun v H'=>
 v= .bool z.2/\i6 lw H H'/\(z.2=true->∃x1 x2 x3,U0 (QR Hs lo K false) (QR Hs lo K true) H' rb lw G z.1 rs vl x1 x2 x3/\aN rb lw [w1,w2,w3] H [x1,x2,x3] H'/\WfR z.1 n)
theorem Lp(Hs:N7)(lo K:Nat)(H:N7)(rb lw:Nat)(G:Nat->Prop)(rs:LV)(vl w1 w2 w3:Value)(size:Int)(h0:0<=size)(n:Nat)(hlo:lo<=lw)(heq:∀j,j<lo->H.get j=Hs.get j) (r:ReD) (hR:U0 (QR Hs lo K false) (QR Hs lo K true) H rb lw G r rs vl w1 w2 w3) (a2:WfR r n):
  Ret (CL prog gh 34 [pT rb,iV size] H) H (Gg Hs lo K rb lw G rs vl w1 w2 w3 n H (fp r size)):=by
 obtain⟨H1,a5,n1,-⟩:=pushF H (bC [pT rb] 1);obtain⟨H2,S⟩:=eY (H1.push (bC [iV size] 1));have n2:H2.next=H.next+2:=by rw[S,i5,n1]
 obtain⟨z,J⟩:=eY (H2.push (bC [.bool false] 1));have n3:z.next=H.next+3:=by rw[J,i5,n2]
 have g2:z.get H.next=cE [pT rb] 1:=by rw[J,i7 oM,S,i7 oM,a5];exact j9
 have g3:z.get (H.next+1)=cE [iV size] 1:=by rw[J,i7 oM,S,<-n1];exact j9
 have g4:z.get (H.next+2)=cE [.bool false] 1:=by rw[J,<-n2];exact j9
 have b0:=Qh z rb size;obtain⟨u,a8⟩:=eY (⟨z.bs++[.cells [pT rb] true 1]++[.cells [iV size] true 1],min z.low z.next⟩:N7);rw[<-a8]at b0;rw[Qy];unfold Eu mi;rw[if_pos sM];have hE:∃D,sI prog t6 zp zq mU mV qp 12 13 rY (N3 0 [pT rb,iV size]) ⟨H.bs,H.next⟩=(match rY D u with
   |some (L,ok)=>match bH prog t6 mU mV 12 13 D ok L u with
    |some (.normal,z)=>LE prog t6 qp D z
    |some (.ret,z)=>some (.ret,D,z)
    |_=>none
   |none=>none)/\D.get 2=pT H.next/\D.get 3=pT (H.next+1)/\D.get 4=pT (H.next+2)/\D.get 11= .func (.func 84) #[] #[pT (H.next+3),pT (H.next+4)]:=by
  have ha:∃e1,LE prog t6 zp (N3 0 [pT rb,iV size]) ⟨H.bs,H.next⟩=some (.normal,e1,z)/\e1.get 2=pT H.next/\e1.get 3=pT (H.next+1)/\e1.get 4=pT (H.next+2):=by
   refine J5 a5.symm n1 S.symm n2 J.symm ?_;exact⟨_,rfl,rfl,rfl,rfl⟩
  obtain⟨e1,ha,p2,p3,p4⟩:=ha;have hb:∃D,LE prog t6 zq e1 z=some (.normal,D,u)/\D.get 2=pT H.next/\D.get 3=pT (H.next+1)/\D.get 4=pT (H.next+2)/\D.get 11= .func (.func 84) #[] #[pT (H.next+3),pT (H.next+4)]:=by
   rw[n3]at b0;refine J5 p2 p3 g2 g3 b0 ?_;exact⟨_,rfl,p2,p3,p4,rfl⟩
  obtain⟨D,hb,p⟩:=hb;refine⟨D,?_,p⟩;unfold sI;simp only[ha,hb];rfl
 obtain⟨D,hE,p2,p3,p4,d4⟩:=hE;rw[hE];have b5:u.bs=((z.push (bC [pT rb] 1)).push (bC [iV size] 1)).bs:=by rw[a8];rfl
 have d9:z.low=H.next:=by rw[J,S,a5];rfl
 have e3:u.low=H.next:=by rw[a8];show min z.low z.next=_;omega
 have n5:u.next=H.next+5:=by
  show u.bs.length=_;rw[b5];simp only[N7.push,List.length_append,List.length_singleton];have:z.bs.length=H.next+3:=n3;omega
 have g5:∀j,u.get j=((z.push (bC [pT rb] 1)).push (bC [iV size] 1)).get j:=fun j=>by show u.bs[j]?=_;rw[b5];rfl
 have o5:∀j,j<z.next->u.get j=z.get j:=fun j E=>by rw[g5,i7 (by rw[i5];omega),i7 E]
 have a3:u.get (H.next+3)=cE [pT rb] 1:=by rw[g5,i7 (by rw[i5];omega),<-n3];exact j9
 have a4:u.get (H.next+4)=cE [iV size] 1:=by
  have e4:H.next+4=(z.push (bC [pT rb] 1)).next:=by rw[i5];omega
  rw[g5,e4];exact j9
 have old:∀j,j<H.next->u.get j=H.get j:=fun j E=>by rw[o5 j oM,J,i7 oM,S,i7 oM,a5,i7 (by exact E)];rfl
 have hS:i6 H.next H u:=⟨oM,fun k hk _=>oM,old⟩
 have U:=hR.keep hS;have e9:=u7 hR.g;have e8:=hR.nb.1;obtain⟨q8,q9,d5,f0⟩:=U.at_;obtain⟨s1,c1,e1⟩:=U.so.slice;have d2:=a2.l0;have e6:=a2.l1;have e7:=a2.l2;obtain⟨s2,c2,c9,z2⟩:=JF U.sz oM;have k1:ldc u (pT (H.next+3)) 0=some (pT rb):=by unfold ldc;simp only[a3];rfl
 have k3:ldc u (pT (H.next+4)) 0=some (.int .i64 size):=by unfold ldc;simp only[a4];rfl
 have k9:ldc u (pT rb) 9=some (.slice s1 r.sorts.length c1):=by unfold ldc;simp only[U.g,Nat.zero_add];rw[q9,e1]
 have c7:ldc u (pT rb) 10=some (.slice (some s2) r.size.length c2):=by unfold ldc;simp only[U.g,Nat.zero_add];rw[d5,c9]
 have c0:∀i,i<r.sorts.length->0<=r.size.getD i 0/\r.size.getD i 0<=1000000:=fun i hi=>by
  have b7:i<r.size.length:=oM;have b9:r.size.getD i 0∈r.size:=by rw[List.getD_eq_getElem?_getD,List.getElem?_eq_getElem b7];exact List.getElem_mem b7
  have:=a2.sb _ b9;omega
 have b8:=HI d4 k1 k3 k9 ⟨d2,oM⟩ c7 oM (fun i=>r.size.getD i 0) (fun i hi=>z2 i oM) c0;obtain⟨ok,c3⟩:=eY (okP (pT (H.next+3)) (pT (H.next+4)) (pT rb) r.sorts.length (fun i=>jg (qc (atA u (ldc u (pT rb) 10) i))) size);rw[<-c3]at b8;have b6:∀i,i<r.sorts.length->jg (qc (atA u (ldc u (pT rb) 10) i))=r.size.getD i 0:=fun i hi=>by
  rw[c7];show jg (qc (ldc u (.pointer (some s2)) i))=_;rw[z2 i oM,qc,jg,if_pos (c0 i hi)]
 have nW:∀j,H.next<=j->∀w∈ [w1,w2,w3],¬l7 w j:=fun j E w hw q=>oN ((hR.inl hw q).2.2);have c4:∀H' r' x1 x2 x3,U0 (QR Hs lo K false) (QR Hs lo K true) H' rb lw G r' rs vl x1 x2 x3->aN rb lw [w1,w2,w3] u [x1,x2,x3] H'->r.size<+:r'.size->ok H':=by
  intro H' r' x1 x2 x3 X h2 h3;have hl:=h3.length_le;obtain⟨t8,t9,d8,f1⟩:=X.at_;obtain⟨s,c,es,zs⟩:=JF X.sz oM;rw[c3];have b3:H'.get (H.next+3)=u.get (H.next+3):=h2.but _ oM oM (nW _ oM);have b4:H'.get (H.next+4)=u.get (H.next+4):=h2.but _ oM oM (nW _ oM);refine⟨by unfold ldc;simp only[b3,a3];rfl,by unfold ldc;simp only[b4,a4];rfl,s,r'.size.length,c,by unfold ldc;simp only[X.g,Nat.zero_add];rw[d8,es],oM,fun i hi=>?_⟩;rw[zs i oM];show _=some (iV (jg (qc (atA u (ldc u (pT rb) 10) i))));rw[b6 i hi];obtain⟨t,ht⟩:=h3;rw[<-ht,List.getD_eq_getElem?_getD,List.getD_eq_getElem?_getD,List.getElem?_append_left oM]
 have hbox:CN u rb lw [w1,w2,w3] H.next (H.next+1) (H.next+2) size:=⟨by rw[o5 _ oM];exact g2,by rw[o5 _ oM];exact g3,⟨_,by rw[o5 _ oM];exact g4⟩,fun j E=>⟨oM,oM,nW j oM⟩⟩
 obtain⟨o,H',hr,a6⟩:=vq Hs lo K rb lw G rs vl [w1,w2,w3] u H.next (H.next+1) (H.next+2) size h0 n hbox hlo (fun j E=>by rw[old j oM];exact heq j E) D p2 p3 p4 ok r.size c4 (aO (fun i=>r.size.getD i 0) size r.sorts.length r.sorts.length) u r w1 w2 w3 U (aN.refl _ _ _ _) a2 List.prefix_rfl;obtain⟨kk,d0⟩:=kK PP PQ _ _ hr;have d1:=cK (vS Jz zC (Bs.lt 0) default) _ _ d0;have hz:W7 size (aO (fun i=>r.size.getD i 0) size r.sorts.length r.sorts.length) r=fp r size:=rfl;rw[hz]at a6;have e0:(match rY D u with
   |some (L,ok)=>match bH prog t6 mU mV 12 13 D ok L u with
    |some (.normal,z)=>LE prog t6 qp D z
    |some (.ret,z)=>some (.ret,D,z)
    |_=>none
   |none=>none)=(match(some (o,H'):Option (Out×N7))with
    |some (.normal,z)=>LE prog t6 qp D z
    |some (.ret,z)=>some (.ret,D,z)
    |_=>none):=by rw[b8];simp only[hr]
 rw[e0];rcases a6 with⟨rfl,X,x1,x2,x3,b1,O,a7⟩|⟨rfl,X,h2,h3⟩
 .have b4:H'.get (H.next+2)=cE [.bool false] 1:=by rw[O.but _ oM oM (nW _ oM),o5 _ oM];exact g4
  obtain⟨W,a1⟩:=eY (H'.put (H.next+2) (bC [.bool true] 1));have nn:=O.stay.next;have c6:W.get (H.next+2)=cE [.bool true] 1:=by rw[a1];exact j5 oM
  have d6:∀j,j≠H.next+2->W.get j=H'.get j:=fun j E=>by rw[a1];exact j6 (fun q=>E q.symm)
  have n6:W.next=H'.next:=by rw[a1,t5]
  have l6:W.low=min H'.low (H.next+2):=by rw[a1,A4]
  simp only;refine J4 p4 b4 a1.symm c6 ?_;refine E1 (fun _ hl=>?_) ?_
  .have e5:H.next<=H'.low:=oM;have c8:∀j,j<H.next->H'.get j=H.get j:=fun j E=>by
    have:=d1.same j oM (by show j<u.next;omega);exact this.trans (old j E)
   obtain⟨_,_,_,a9⟩:=b1.back hR c8;exact⟨by rw[X],i6.refl _ _,fun _=>⟨w1,w2,w3,a9,aN.refl _ _ _ _,a7⟩⟩
  .have c5:i6 lw H ⟨W.bs,min H.low W.low⟩:=by
    refine⟨by show H.next<=W.next;omega,fun k hk q=>?_,fun j E=>?_⟩
    .have:=O.stay.lowAll k hk oM;show k<=min H.low W.low;omega
    .show W.get j=H.get j;rw[d6 j oM,O.stay.get j E,old j oM]
   refine⟨by rw[X],c5,fun _=>⟨x1,x2,x3,?_,⟨fun j E e1 D=>?_,fun b hb=>?_,c5⟩,a7⟩⟩
   .refine b1.side (b:=H.next+2) ⟨oM,fun q=>by have:=(hR.fr _ q).1;omega,fun w hw q=>?_⟩ (by show H'.next<=W.next;omega) d6;rcases O.new _ ⟨w,hw,q⟩with⟨w',d3,q'⟩|q'
    .exact nW _ oM w' d3 q'
    .omega
   .show W.get j=H.get j;rw[d6 j oM,O.but j oM e1 D,old j E]
   .rcases O.new b hb with q|q
    .exact .inl q
    .exact .inr oM
 .simp only;refine J2 p4 h2 ?_;refine E1 (fun _ hl=>⟨by rw[X],i6.refl _ _,fun q=>by rw[X]at q;cases q⟩) ⟨by rw[X],⟨?_,fun k hk q=>?_,fun j E=>?_⟩,fun q=>by rw[X]at q;cases q⟩
  .have:=h3.next;show H.next<=H'.next;omega
  .have:=h3.lowAll k hk oM;show k<=min H.low H'.low;omega
  .show H'.get j=H.get j;rw[h3.get j E,old j oM]
def PE(p:PrD):Prop:=0<=p.st/\∀x∈p.ed,0<=x.1/\x.1<p.st/\0<=x.2.1/\x.2.1<p.st/\(x.2.2.1=3->0<=x.2.2.2/\x.2.2.2<p.ts.length)
theorem PE.edge{p:PrD}(h:PE p){f t:Int}(u:0<=f/\f<p.st)(z:0<=t/\t<p.st):PE (p.edge f t 0 0):=by
 refine⟨h.1,fun x D=>?_⟩;rcases List.mem_append.1 D with q|q
 .exact h.2 x q
 .rw[List.mem_singleton.1 q];exact⟨u.1,u.2,z.1,z.2,fun q=>by cases q⟩
theorem PE.more{p:PrD}(h:PE p)(d:Int)(S:0<=d):PE {p with st:=p.st+d}:=by
 refine⟨by show 0<=p.st+d;have:=h.1;omega,fun x E=>?_⟩;obtain⟨u,J,z,O,D⟩:=h.2 x E;exact⟨u,by show x.1<p.st+d;omega,z,by show x.2.1<p.st+d;omega,D⟩
theorem PE.fold{t:Int}:∀(l:List Int){p:PrD},PE p->(0<=t/\t<p.st)->(∀x∈l,0<=x/\x<p.st)->PE (l.foldl (fun m x=>m.edge x t 0 0) p)
 |[],p,h,_,_=>h
 |x::l,p,h,ht,hl=>by
  rw[List.foldl_cons];exact PE.fold l (h.edge (hl x sM) ht) ht fun y u=>hl y (by simp [u])
def PW(p:PrD)(r:PrD×Int×Int):Prop:=PE r.1/\p.st<=r.1.st/\p.ts.length<=r.1.ts.length/\0<=r.2.1/\r.2.1<r.1.st/\0<=r.2.2/\r.2.2<r.1.st
mutual
theorem jc:∀(q:Q)(p:PrD),OkD false q->PE p->PW p (C6 q p)
 | .mk o s c v a b,p,hok,hp=>by
  obtain⟨ha,hb,h1,h2,h3⟩:=hok.parts;obtain⟨n1,n2,n3,n4⟩:=Tt h3;have l4:o=4->1<=a.length:=by
   rintro rfl;have:(2:Int)<=a.length:=n1;omega
  have l6:o=6->1<=a.length:=by
   rintro rfl;have:(1:Int)<=a.length:=n1;omega
  simp only[Q.op,Q.a,Q.b,Bool.false_eq_true,if_false]at ha hb h1 n3 n4;have hp0:=hp.1;rw[C6];split
  .rename_i ho;exact IO a p (l4 ho) ha hp
  .rename_i ho4;split
   .rename_i ho;obtain⟨k1,k2,k3,k4⟩:=zd a p.st {p with st:=p.st+1} [] ha (hp.more 1 oM) ⟨hp.1,by show p.st<p.st+1;omega⟩ (fun e he=>by cases he);obtain⟨f1,f2,_⟩:=kf (I9 a p.st {p with st:=p.st+1} []).1.st (I9 a p.st {p with st:=p.st+1} []).2 {(I9 a p.st {p with st:=p.st+1} []).1 with st:=(I9 a p.st {p with st:=p.st+1} []).1.st+1};have k2':p.st+1<=(I9 a p.st {p with st:=p.st+1} []).1.st:=k2;unfold PW;rw[f1,f2];refine⟨?_,by show p.st<=(I9 a p.st {p with st:=p.st+1} []).1.st+1;omega,k3,hp.1,by show p.st<(I9 a p.st {p with st:=p.st+1} []).1.st+1;omega,k1.1,by show(I9 a p.st {p with st:=p.st+1} []).1.st<(I9 a p.st {p with st:=p.st+1} []).1.st+1;omega⟩;refine PE.fold _ (k1.more 1 oM) ⟨k1.1,by show(I9 a p.st {p with st:=p.st+1} []).1.st<(I9 a p.st {p with st:=p.st+1} []).1.st+1;omega⟩ fun x hx=>?_;have:=k4 x hx;exact⟨this.1,by show x<(I9 a p.st {p with st:=p.st+1} []).1.st+1;omega⟩
   .rename_i ho5;split
    .rename_i ho;obtain⟨k1,k2,k3,k4,k5,k6,k7⟩:=Il a {p with st:=p.st+1} (l6 ho) ha (hp.more 1 oM);have k2':p.st+1<=(dY a {p with st:=p.st+1}).1.st:=k2;exact⟨(k1.edge ⟨hp.1,oM⟩ ⟨k4,k5⟩).edge ⟨k6,k7⟩ ⟨hp.1,by show p.st<(dY a {p with st:=p.st+1}).1.st;omega⟩,by show p.st<=(dY a {p with st:=p.st+1}).1.st;omega,k3,hp.1,by show p.st<(dY a {p with st:=p.st+1}).1.st;omega,hp.1,by show p.st<(dY a {p with st:=p.st+1}).1.st;omega⟩
    .rename_i ho6;have hts:p.ts.length<=(if o=7 then p.ts++b else p.ts).length:=by
      split
      .rw[List.length_append];omega
      .exact lR
     refine⟨⟨by show 0<=p.st+2;omega,fun x hx=>?_⟩,by show p.st<=p.st+2;omega,hts,hp.1,by show p.st<p.st+2;omega,by show 0<=p.st+1;omega,by show p.st+1<p.st+2;omega⟩;rcases List.mem_append.1 hx with q|q
     .obtain⟨e1,e2,e3,e4,e5⟩:=hp.2 x q;refine⟨e1,by show x.1<p.st+2;omega,e3,by show x.2.1<p.st+2;omega,fun h=>?_⟩;have:=e5 h;exact⟨this.1,by show x.2.2.2<((if o=7 then p.ts++b else p.ts).length:Int);omega⟩
     .rw[List.mem_singleton.1 q];refine⟨hp.1,by show p.st<p.st+2;omega,by show 0<=p.st+1;omega,by show p.st+1<p.st+2;omega,fun h=>?_⟩;have h7:o=7:=by
       by_cases h7:o=7
       .exact h7
       .exfalso
        simp only[if_neg h7]at h;split at h
        .cases h
        .split at h<;>cases h
      show 0<=(if o=7 then(p.ts.length:Int) else 0)/\(if o=7 then(p.ts.length:Int) else 0)<((if o=7 then p.ts++b else p.ts).length:Int);rw[if_pos h7,if_pos h7,List.length_append];have:=n3.1 h7;omega
theorem IO:∀(l:List Q)(p:PrD),1<=l.length->(∀x∈l,OkD false x)->PE p->PW p (eu l p)
 |[],p,h,_,_=>by simp at h
 |x::l,p,_,h,hp=>by
  rw[eu];exact zR l (C6 x p) p (fun y hy=>h y (by simp [hy])) (jc x p (h x (by simp)) hp)
theorem zR:∀(l:List Q)(x:PrD×Int×Int)(p:PrD),(∀y∈l,OkD false y)->PW p x->PW p (bO l x)
 |[],x,p,_,h=>by rw[bO];exact h
 |q::l,x,p,h,hx=>by
  rw[bO];obtain⟨k1,k2,k3,k4,k5,k6,k7⟩:=hx;obtain⟨m1,m2,m3,m4,m5,m6,m7⟩:=jc q x.1 (h q (by simp)) k1;refine zR l _ p (fun y hy=>h y (by simp [hy])) ⟨m1.edge ⟨k6,oM⟩ ⟨m4,m5⟩,by show p.st<=(C6 q x.1).1.st;omega,by show p.ts.length<=(C6 q x.1).1.ts.length;omega,k4,by show x.2.1<(C6 q x.1).1.st;omega,m6,m7⟩
theorem zd:∀(l:List Q)(n:Int)(p:PrD)(es:List Int),(∀y∈l,OkD false y)->PE p->(0<=n/\n<p.st)->(∀e∈es,0<=e/\e<p.st)->
  PE (I9 l n p es).1/\p.st<=(I9 l n p es).1.st/\p.ts.length<=(I9 l n p es).1.ts.length/\∀e∈(I9 l n p es).2,0<=e/\e<(I9 l n p es).1.st
 |[],n,p,es,_,hp,_,he=>by rw[I9];exact⟨hp,Int.le_refl _,lR,he⟩
 |x::l,n,p,es,h,hp,hn,he=>by
  rw[I9];obtain⟨m1,m2,m3,m4,m5,m6,m7⟩:=jc x p (h x (by simp)) hp;obtain⟨r1,r2,r3,r4⟩:=zd l n ((C6 x p).1.edge n (C6 x p).2.1 0 0) (es++[(C6 x p).2.2]) (fun y hy=>h y (by simp [hy])) (m1.edge ⟨hn.1,oM⟩ ⟨m4,m5⟩) ⟨hn.1,by show n<(C6 x p).1.st;omega⟩ (fun e hm=>by
   rcases List.mem_append.1 hm with q|q
   .have:=he e q;exact⟨this.1,by show e<(C6 x p).1.st;omega⟩
   .rw[List.mem_singleton.1 q];exact⟨m6,m7⟩)
  have r2':(C6 x p).1.st<=(I9 l n ((C6 x p).1.edge n (C6 x p).2.1 0 0) (es++[(C6 x p).2.2])).1.st:=r2;have r3':(C6 x p).1.ts.length<=(I9 l n ((C6 x p).1.edge n (C6 x p).2.1 0 0) (es++[(C6 x p).2.2])).1.ts.length:=r3;exact⟨r1,oM,oM,r4⟩
theorem Il:∀(l:List Q)(p:PrD),1<=l.length->(∀x∈l,OkD false x)->PE p->PW p (dY l p)
 |[],p,h,_,_=>by simp at h
 |x::l,p,_,h,hp=>by
  rw[dY];exact jc x p (h x (by simp)) hp
end
theorem DB(q:Q)(u:OkD false q)(hn:nQ q<=100000):PWf (B9 q):=by
 obtain⟨z,W,X,D,E,J,O⟩:=jc q ⟨0,0,0,[],[]⟩ u ⟨Int.le_refl _,fun x U=>by cases U⟩;have S:=dR q;exact⟨⟨S.1,oM⟩,⟨D,E⟩,⟨J,O⟩,z.2⟩
theorem qO(q:Q)(U:OkD false q)(hn:nQ q<=1000):0<=A0 (C0 q).progs/\A0 (C0 q).progs<=2000*((C0 q).progs.length:Int)/\∀(i:Nat) p b,(C0 q).progs[i]?=some p->(C0 q).base[i]?=some b->0<=b/\b+p.st<=A0 (C0 q).progs/\PWf p:=by
 obtain⟨h1,h2⟩:=bS _ false q lR U;have key:∀(l:List Q)(s:StD),(∀x∈l,OkD false x/\nQ x<=nQ q)->s.base.length=s.progs.length->0<=A0 s.progs->A0 s.progs<=2000*(s.progs.length:Int)->(∀(i:Nat) p b,s.progs[i]?=some p->s.base[i]?=some b->0<=b/\b+p.st<=A0 s.progs/\PWf p)->
   0<=A0 (l.foldl E8 s).progs/\A0 (l.foldl E8 s).progs<=2000*((l.foldl E8 s).progs.length:Int)/\∀(i:Nat) p b,(l.foldl E8 s).progs[i]?=some p->(l.foldl E8 s).base[i]?=some b->0<=b/\b+p.st<=A0 (l.foldl E8 s).progs/\PWf p:=by
  intro l;induction l with
  |nil=>intro s _ _ E O J;exact⟨E,O,J⟩
  |cons x l ih=>
   intro s X S E O J;rw[List.foldl_cons];have W:=X x sM;have hc:=dR x;refine ih (E8 s x) (fun y hy=>X y (by simp [hy])) ?_ ?_ ?_ ?_
   .rw[E8];split
    .exact S
    .simp [S]
   .rw[E8];split
    .exact E
    .rw[U6];omega
   .rw[E8];split
    .exact O
    .rw[U6,List.length_append,List.length_singleton];omega
   .rw[E8];split
    .exact J
    .intro i p b z u;rw[U6];by_cases hi:i<s.progs.length
     .rw[List.getElem?_append_left hi]at z;rw[List.getElem?_append_left oM]at u;obtain⟨a1,a2,a3⟩:=J i p b z u;exact⟨a1,oM,a3⟩
     .have D:i=s.progs.length:=by
       have:=(gS z).1;simp at this;omega
      rw[List.getElem?_append_right oM,D,Nat.sub_self]at z;rw[List.getElem?_append_right oM,D,S,Nat.sub_self]at u;simp at z u;subst z u;exact⟨E,Int.le_refl _,DB x W.1 oM⟩
 exact key (inQ false q) ⟨[],[],[],B9 q⟩ h2 rfl (Int.le_refl _) (by simp [A0]) (fun i p b z=>by simp at z)
theorem qP(q:Q)(u:OkD false q)(hn:nQ q<=400):WfS (C0 q) (A0 (C0 q).progs).toNat:=by
 obtain⟨E,J,X,h4⟩:=jO q u;obtain⟨k1,k2,U⟩:=qO q u oM;refine⟨E,J,oM,oM,fun i p b S O=>?_⟩;obtain⟨z,W,D⟩:=U i p b S O;exact⟨z,oM,D⟩
theorem Ret.one{f:FuncId}{args:LV}{H H':N7}{Q:Value->N7->Prop}(h:Ret (CL prog t6 f args H) H' Q):Ret (CL prog gh f args H) H' Q:=by
 obtain⟨v,z,u,D,E,J⟩:=h;exact⟨v,z,u,aX D,E,J⟩
theorem LT{a b:Int}(u:0<=a/\a<=200)(z:0<=b/\b<=200):0<=mx2 a b/\mx2 a b<=200:=by unfold mx2;split<;>assumption
theorem LU:∀l:List Int,(∀x∈l,0<=x/\x<=200)->0<=mxL l/\mxL l<=200
 |[],_=>by simp [mxL]
 |x::l,h=>by
  have:∀(l:List Int)(m:Int),(∀x∈l,0<=x/\x<=200)->0<=m/\m<=200->0<=l.foldl mx2 m/\l.foldl mx2 m<=200:=by
   intro l;induction l with
   |nil=>intro m _ h;exact h
   |cons y l O=>intro m u D;rw[List.foldl_cons];exact O _ (fun z J=>u z (by simp [J])) (LT D (u y sM))
  exact this l x (fun y E=>h y (by simp [E])) (h x sM)
def km:Nat->ReD->Int->Option ReD
 |0,r,_=>some r
 |k+1,r,size=>if decide (size<=2*mxL r.size+1) then(if(fp r size).2 then km k (fp r size).1 (size+1) else none) else some r
def z12:LV:=[nS,nS,nS,iV 0,iV 0,iV 0,nS,nS,nS,nS,nS,nS]
theorem yi(X:N7)(lo K:Nat)(rb U:Nat)(G:Nat->Prop)(rs:LV)(vl:Value)(Hb:N7)(E:Nat)(n:Nat)(a8:lo<=U)(a7:∀j,j<lo->Hb.get j=X.get j) (a2:E<U) (g2:Hb.get E=cE z12 1) (J:Option ReD):
  ∀kk e H,(∃(size:Int)(r:ReD)(x1 W x3:Value),kk=(402-size).toNat/\0<=size/\size<=402/\e.get 2=pT E/\e.get 6=pT rb/\e.get 7=iV size/\
    U0 (QR X lo K false) (QR X lo K true) H rb U G r rs vl x1 W x3/\i6 U Hb H/\WfR r n/\km kk r size=J)->
  w7 (LE prog gh (.loop MX) e H) (fun o e H=>e.get 2=pT E/\((o= .exit 0/\e.get 6=pT rb/\i6 U Hb H/\∃r x1 W x3,J=some r/\U0 (QR X lo K false) (QR X lo K true) H rb U G r rs vl x1 W x3/\WfR r n)\/(o= .ret/\J=none/\e.get 3=iV 13/\H.get E=cE z12 1/\i6 E Hb H))):=by
 refine i8 _ _ ?_;rintro kk e H ⟨size,r,x1,W,x3,hk,b1,b8,f2,f6,f7,hR,hS,z,D⟩;obtain⟨q8,q9,b3,c0⟩:=hR.at_;have a9:=LU r.size z.sb;have b5:=z.l0;have b6:=z.l1;have b7:=z.l2;have ho:=aX (Md H rb _ true 1 hR.g W r.size hR.sz.sl b3 oM oM size a9.1 oM);rcases bo:decide (size<=2*mxL r.size+1)with _|_
 .rw[bo]at ho;have a3:J=some r:=by
   cases kk with
   |zero=>rw[km]at D;exact D.symm
   |succ k=>rw[km,bo]at D;exact D.symm
  refine J3 f6 f7 ho ?_;exact i9 ⟨f2,.inl ⟨rfl,f6,hS,r,x1,W,x3,a3,hR,z⟩⟩
 .have b4:=dT bo;rw[bo]at ho;obtain⟨k,rfl⟩:∃k,kk=k+1:=⟨kk-1,oM⟩
  rw[km,bo]at D;simp only[if_true]at D;obtain⟨v,hp,H1,u,O,hv,S,b0⟩:=Lp X lo K H rb U G rs vl x1 W x3 size b1 n a8 (fun j hj=>by rw[hS.get j oM];exact a7 j hj) r hR z;subst hv;have a1:H1.get E=cE z12 1:=by rw[S.get E a2,hS.get E a2];exact g2
  have a5:=u7 a1;rcases bz:(fp r size).2 with _|_
  .rw[bz]at u D;simp only[bF]at D;simp(maxSteps:=20000000) -dsimp (disch:=first|omega|(simp only[rH]<;>omega)|fail) only[↓ig,rQ,N3,sevalprocAttr,tyA,f2,f6,f7,ho,u,O,a1,z12];exact z9 ⟨f2,.inr ⟨rfl,D.symm,rfl,j5 a5,((hS.trans S).weaken oM).trans (i6.put lR)⟩⟩
  .obtain⟨y1,y2,y3,a6,_,a4⟩:=b0 bz;rw[bz]at u D;simp only[if_true]at D;have b9:2*mxL r.size+1<=401:=oM;refine J6 f6 f7 ho u O @wrap_small ?_;exact i4 k oM ⟨size+1,_,y1,y2,y3,oM,oM,oM,f2,f6,rfl,a6,hS.trans S,a4,D⟩
theorem fd(P:Program)(e:Env)(H:N7)(a:Nat)(t:TypeId)(u:Nat):[ResultVar.cell a t,.tmp u].mapM (M0 P e H)=(ld P t H (e.get a)).map fun v=>[v,e.get u]:=by
 simp only[List.mapM_cons,List.mapM_nil,M0];cases ld P t H (e.get a)<;>rfl
theorem Cz(q:Q)(D:OkD false q):∀p∈(C0 q).progs,∃x,nQ x<=nQ q/\p=B9 x:=by
 obtain⟨S,E⟩:=bS _ false q lR D;have key:∀(l:List Q)(s:StD),(∀x∈l,nQ x<=nQ q)->(∀p∈s.progs,∃x,nQ x<=nQ q/\p=B9 x)->∀p∈(l.foldl E8 s).progs,∃x,nQ x<=nQ q/\p=B9 x:=by
  intro l;induction l with
  |nil=>intro s _ h;exact h
  |cons x l O=>
   intro s z h;rw[List.foldl_cons];refine O (E8 s x) (fun y J=>z y (by simp [J])) ?_;rw[E8];split
   .exact h
   .intro p u;rcases List.mem_append.1 u with u|u
    .exact h p u
    .exact⟨x,z x sM,by simpa using u⟩
 exact key (inQ false q) ⟨[],[],[],B9 q⟩ (fun x z=>(E x z).2) sM
theorem AK(q:Q):(B9 q).ed.length<=4*nQ q/\(B9 q).ts.length<=nQ q:=by
 have:=F8 q ⟨0,0,0,[],[]⟩;unfold au at this;simp only[B9];simp only[List.length_nil]at this;omega
theorem SlF.off{H:N7}{F:Nat->Prop}{sz:Nat}{α:Type}{R D:LV->α->Prop}{v:Value}{l:List α}{b:Nat}{c:LV}{own:Bool}(h:SlF H F sz R v l)(hb:H.get b=some (.cells c own 1))(z:sz≠1)(W:∀cs a,R cs a->D cs a):SlF H (fun j=>F j/\j≠b) sz D v l:=by
 rcases h with h|⟨E,o,J,hv,h⟩
 .exact .inl h
 .refine .inr ⟨E,o,J,hv,h.imp id fun⟨cs,ow,O,u,S,U⟩=>⟨cs,ow,⟨O,fun q=>?_⟩,u,S,fun i a X=>W _ _ (U i a X)⟩⟩;subst q;rw[hb]at u;cases u;exact z rfl
def cT(H:N7)(F:Nat->Prop)(Rp Rt:LV->Q->Prop)(row:LV)(r:ReD):Prop:=∃rs vl w1 w2 w3,row=rs++[vl,w1,w2,w3]/\StF H F Rp Rt rs r.strat/\SlF H F 5 (EvF H F) vl r.labels/\SlF H F 3 (w9 soE) w1 r.sorts/\SlF H F 1 (w9 inE) w2 r.size/\SlF H F 3 (w9 hoE) w3 r.how
def MQ(H:N7)(lo K:Nat)(n:Nat)(res:Option ReD)(v:Value)(H':N7):Prop:=∃row er,v= .tuple #[.agg row.toArray,iV er]/\i6 H.next H H'/\((res=none/\row=z12/\er=13)\/∃r,res=some r/\er=0/\WfR r n/\cT H' (· <H'.next) (QR H lo K false) (QR H lo K true) row r)
def kV(q:Q):Option ReD:=match V4 (spQ q)with
 |none=>none
 |some l=>km 401 ⟨C0 q,l,[soZ],[0],[(0,0,0)]⟩ 1
theorem jr(q:Q){l:List EvD}(h:V4 (spQ q)=some l):l.length<=24/\∀e∈l,e.attrs.length<=1000000:=by
 obtain⟨z1,z2,E,z4,z5⟩:=jM q;have z:=iC (spQ q) E;rw[z]at h;split at h
 .cases h
 .rename_i O;cases h;obtain⟨c1,c2,W,X,J⟩:=mL O E;refine⟨J,fun e u=>?_⟩;have key:∀(l:List (NmQ×List ByteArray))(e0 e:EvD),e∈S3 l e0->e.attrs.length<=e0.attrs.length+l.length:=by
   intro l;induction l with
   |nil=>intro e0 e u;rw[S3,List.mem_singleton]at u;subst u;simp
   |cons x l D=>
    intro e0 e u;rw[S3,List.mem_append]at u;rcases u with u|u
    .have:=D e0 e u;rw[List.length_cons];omega
    .obtain⟨v,_,U⟩:=List.mem_flatMap.1 u;have:=D _ e U;simp only[atV,List.length_append,List.length_singleton]at this;rw[List.length_cons];omega
  rw[js,List.mem_append]at u;rcases u with u|u
  .obtain⟨n,_,S⟩:=List.mem_flatMap.1 u;have:=key _ _ _ S;rw[List.length_zip]at this;simp only[X5,List.length_nil]at this;omega
  .obtain⟨t,_,rfl⟩:=List.mem_map.1 u;simp [dp]
theorem EP(K:Nat)(H:N7)(lo:Nat)(cs:LV)(q:Q)(m8:lo<=H.next)(hr:QR H lo K false cs q)(c0:OkD false q)(g0:nQ q<=400):
  Ret (CL prog gh 11 [.agg cs.toArray] H) H (MQ H lo K (A0 (C0 q).progs).toNat (kV q)):=by
 have ac:=F7 hr;have ldc:=N5 hr;have l0:=hr.len;simp only[qSz,bF]at l0;rw[l0]at ldc;obtain⟨H0,b2,n0,-⟩:=pushF H (bC cs 1);obtain⟨H1,a6⟩:=eY (H0.push (bC z12 1));have n1:H1.next=H.next+2:=by rw[a6,i5,n0]
 have b8:i6 H.next H H1:=by rw[a6,b2];exact(i6.first H _).trans (i6.push (by rw[i5];exact Nat.le_succ _))
 have g1:H1.get H.next=cE cs 1:=by rw[a6,i7 oM,b2];exact j9
 have g2:H1.get (H.next+1)=cE z12 1:=by rw[a6,<-n0];exact j9
 obtain⟨vl,m9,Hl,c5,b9,v,er,rfl,g3,W⟩:=(EG H1 lo K cs q oM (hr.mono (fun j J=>b8.get j oM) lR) c0 oM).one;have nl:=W.next;have h8:=(W.get H.next oM).trans g1;have c8:=(W.get (H.next+1) oM).trans g2;have b5:=a6;have d1:=c8;simp only[z12]at b5 d1;rw[j7 OJ rfl _ sM];unfold kV;rcases g3 with⟨hn,rfl,rfl⟩|⟨l,hl,rfl,hv⟩
 .rw[hn];obtain⟨H2,c9⟩:=eY (Hl.put (H.next+1) (bC z12 1));have c2:H2.get (H.next+1)=cE z12 1:=by rw[c9];exact j5 oM
  have l1:H2.low=min Hl.low (H.next+1):=by rw[c9,A4]
  have j1:i6 H.next H H2:=by rw[c9];exact(b8.trans (W.weaken oM)).trans (i6.put oM)
  have d2:=c9;simp only[z12]at d2 c2;refine J12 ac b2.symm n0 b5.symm g1 ldc c5 b9 d1 d2.symm c2 @fd ?_;refine E1 (fun _ _=>?_) ?_
  .exact⟨z12,13,rfl,i6.refl _ _,.inl ⟨rfl,rfl,rfl⟩⟩
  .exact⟨z12,13,rfl,j1.ret (by have:=W.lowAll H.next oM (by rw[a6,b2];exact lR);omega),.inl ⟨rfl,rfl,rfl⟩⟩
 .rw[hl];obtain⟨m7,j2⟩:=jr q hl;obtain⟨vs,n2,u,f1,e6,rs,rfl,d4,b4⟩:=(yK K Hl lo cs q oM (hr.mono (fun j J=>by rw[W.get j oM,b8.get j oM]) lR) c0 oM).one;have nm:=b4.next;have h9:=(b4.get (H.next+1) oM).trans c8;obtain⟨sa,sc,rfl⟩:=hv.slice;obtain⟨pa,pc,ga,gc,xa,xc,ea,ec,ta,tc,O,_⟩:=F1 d4;have a9:rs.length=8:=by rw[O];rfl
  have h4:rs.all oC=true:=by rw[O];rfl
  obtain⟨M1,b6,m1,-⟩:=pushE u (bC (soE soZ) 3);obtain⟨M2,a7⟩:=eY (M1.push (bC (inE 0) 1));have m2:M2.next=u.next+2:=by rw[a7,i5,m1]
  obtain⟨M3,a4⟩:=eY (M2.push (.cells (hoE (0,0,0)) true 3));have m3:M3.next=u.next+3:=by rw[a4,i5,m2]
  obtain⟨M4,S⟩:=eY (M3.push (bC z12 1));have m4:M4.next=u.next+4:=by rw[S,i5,m3]
  have gz:M4.get (u.next+3)=cE z12 1:=by rw[S,<-m3];exact j9
  have l5:∀Hx:N7,bsA prog (some 59) Hx 1 [(0,.agg (soE soZ).toArray)]=some (sL Hx.next 1 1,Hx.push (bC (soE soZ) 3)):=fun Hx=>by simp only[C7,CH,C8];rfl
  have h5:∀Hx:N7,bsA prog (some 3) Hx 1 [(0,iV 0)]=some (sL Hx.next 1 1,Hx.push (bC (inE 0) 1)):=fun Hx=>by simp only[C7,ty3,C8];rfl
  have h7:∀Hx:N7,bsA prog (some 56) Hx 1 [(0,.agg (hoE (0,0,0)).toArray)]=some (sL Hx.next 1 1,Hx.push (.cells (hoE (0,0,0)) true 3)):=fun Hx=>by simp only[C7,CG,C8];rfl
  obtain⟨b0,a5⟩:=eY (rs++[.slice sa l.length sc,sL u.next 1 1,sL (u.next+1) 1 1,sL (u.next+2) 1 1]);obtain⟨r0,e7⟩:=eY (rs++[nS,nS,nS,nS]:LV);obtain⟨r1,e8⟩:=eY (rs++[.slice sa l.length sc,nS,nS,nS]:LV);obtain⟨r2,e9⟩:=eY (rs++[.slice sa l.length sc,sL u.next 1 1,nS,nS]:LV);obtain⟨r3,f0⟩:=eY (rs++[.slice sa l.length sc,sL u.next 1 1,sL (u.next+1) 1 1,nS]:LV);have k3:splice [nS,nS,nS,iV 0,iV 0,iV 0,nS,nS,nS,nS,nS,nS] 0 rs=r0:=by rw[e7,O];rfl
  have k4:splice r0 8 [.slice sa l.length sc]=r1:=by rw[e7,e8,O];rfl
  have k5:splice r1 9 [sL u.next 1 1]=r2:=by rw[e8,e9,O];rfl
  have k6:splice r2 10 [sL (u.next+1) 1 1]=r3:=by rw[e9,f0,O];rfl
  have k7:splice r3 11 [sL (u.next+2) 1 1]=b0:=by rw[f0,a5,O];rfl
  have j4:r0.length=12:=by rw[e7];simp [a9]
  have k0:r1.length=12:=by rw[e8];simp [a9]
  have k1:r2.length=12:=by rw[e9];simp [a9]
  have k2:r3.length=12:=by rw[f0];simp [a9]
  have g9:b0.length=12:=by rw[a5];simp [a9]
  have f5:b0.all oC=true:=by rw[a5,O];rfl
  have k8:splice [nS,nS,nS,iV 0,iV 0,iV 0,nS,nS,nS,nS,nS,nS] 0 b0=b0:=by rw[a5,O];rfl
  obtain⟨M5,U⟩:=eY (M4.put (u.next+3) (bC b0 1));have m5:M5.next=u.next+4:=by rw[U,t5,m4]
  have f9:M1=u.push (bC [.bool false,.bool false,.string eB] 3):=b6;have g8:H.next<=Hl.low:=W.lowAll H.next oM (by rw[a6,b2];exact lR);have l3:H.next<=u.low:=b4.lowAll H.next oM g8;have d5:H.next<=M5.low:=by
   have e4:M4.low=u.low:=by rw[S,a4,a7,b6];rfl
   rw[U,A4,e4];omega
  have d3:=S;have f8:=gz;simp only[z12]at d3 f8;refine J30 ac b2.symm n0 b5.symm g1 h8 ldc c5 b9 f1 e6 h5 h7 f9.symm m1 a7.symm m2 a4.symm m3 d3.symm f8 a9 h4 k3 (aI k4 k5) (aI k6 k7) (aI j4 k0) (aI k1 k2) (aI g9 f5) (aI k8 U.symm) ?_;have sG:∀j,j<u.next->M5.get j=u.get j:=fun j J=>by rw[U,j6 oM,S,i7 oM,a4,i7 oM,a7,i7 oM,b6,i7 oM]
  have i0:M5.get u.next=cE (soE soZ) 3:=by rw[U,j6 oM,S,i7 oM,a4,i7 oM,a7,i7 oM,b6];exact j9
  have i1:M5.get (u.next+1)=cE (inE 0) 1:=by rw[U,j6 oM,S,i7 oM,a4,i7 oM,a7,<-m1];exact j9
  have i2:M5.get (u.next+2)=some (.cells (hoE (0,0,0)) true 3):=by rw[U,j6 oM,S,i7 oM,a4,<-m2];exact j9
  have i3:M5.get (u.next+3)=cE b0 1:=by rw[U];exact j5 oM
  have h0:∀j,j<lo->Hl.get j=H.get j:=fun j J=>by rw[W.get j oM,b8.get j oM]
  obtain⟨d0,c4⟩:=eY (⟨C0 q,l,[soZ],[0],[(0,0,0)]⟩:ReD);have j3:SlF Hl (fun j=>j<Hl.next/\j≠H.next+1) 5 (EvF Hl (fun j=>j<Hl.next/\j≠H.next+1)) (.slice sa l.length sc) l:=hv.off c8 oM fun cs e⟨w,h1,h2⟩=>⟨w,h1,h2.off c8 oM fun _ _ h=>h⟩
  have j0:U0 (QR H lo K false) (QR H lo K true) M5 (u.next+3) u.next (fun j=>j<u.next/\j≠H.next+1) d0 rs (.slice sa l.length sc) (sL u.next 1 1) (sL (u.next+1) 1 1) (sL (u.next+2) 1 1):=by
   rw[c4];refine⟨by rw[i3,a5],d4.mono (fun j J=>sG j J.2) (fun j J=>⟨J.2,oM⟩) (fun _ _ h=>h.mono (fun j J=>(h0 j J).symm) lR) (fun _ _ h=>h.mono (fun j J=>(h0 j J).symm) lR),
    j3.mono (fun j J=>by rw[sG j oM];exact b4.get j J.1) (fun j J=>⟨oM,J.2⟩) (fun _ _ h=>y9 _ _ _ _ _ _ h (fun j J=>by rw[sG j oM];exact b4.get j J.1) (fun j J=>⟨oM,J.2⟩)),
    ⟨_,.inr ⟨u.next,1,rfl,i0,lR,rfl⟩,D2.one rfl rfl⟩,⟨_,.inr ⟨u.next+1,1,rfl,i1,oM,rfl⟩,D2.one rfl rfl⟩,⟨_,.inr ⟨u.next+2,1,rfl,i2,oM,rfl⟩,D2.one rfl rfl⟩,?_,fun j J=>⟨oM,oM,?_⟩,oM,?_⟩
   .intro i j a b ha hb m0 x hx hy;have hi:i<3:=by have:=(gS ha).1;simpa using this
    have J:j<3:=by have:=(gS hb).1;simpa using this
    have:i=0\/i=1\/i=2:=oM;have:j=0\/j=1\/j=2:=oM;rcases ‹i=0\/i=1\/i=2› with rfl|rfl|rfl<;>rcases ‹j=0\/j=1\/j=2› with rfl|rfl|rfl<;>simp at ha hb<;>subst ha hb<;>rw[E6]at hx hy<;>omega
   .intro w hw;simp only[List.mem_cons,List.not_mem_nil,or_false]at hw;rcases hw with rfl|rfl|rfl<;>rw[E6]<;>omega
   .intro w hw;simp only[List.mem_cons,List.not_mem_nil,or_false]at hw;rcases hw with rfl|rfl|rfl<;>rw[E6]<;>omega
  have g6:WfR d0 (A0 (C0 q).progs).toNat:=by
   rw[c4];have h1:=qO q c0 oM;refine⟨by show(((A0 (C0 q).progs).toNat:Nat):Int)=A0 (C0 q).progs;omega,qP q c0 g0,fun x hx=>?_,j2,fun p hp=>?_,by simp,rfl,rfl,by show l.length<=1000;omega,by simp,fun x hx=>?_⟩
   .have:x=soZ:=by simpa using hx
    subst this;intro h;cases h
   .obtain⟨x,hx,rfl⟩:=Cz q c0 p hp;have h2:=dR x;have h3:=AK x;omega
   .have:x=0:=by simpa using hx
    subst this;omega
  have d9:i6 H.next H M5:=by
   rw[U,S,a4,a7,b6];exact(b8.trans ((W.weaken oM).trans (b4.weaken oM))).trans (((((i6.push oM).trans (i6.push (by rw[i5];omega))).trans (i6.push (by rw[i5,i5];omega))).trans (i6.push (by rw[i5,i5,i5];omega))).trans (i6.put oM))
  have f7:M5.get (H.next+1)=cE z12 1:=(sG _ oM).trans h9;rw[<-c4];refine j8 (F:=fun z=>Ret (u5 prog [.cell 2 39,.tmp 3] H (u9 (inBlock 0 z) _)) H _) (yi H lo K (u.next+3) u.next (fun j=>j<u.next/\j≠H.next+1) rs (.slice sa l.length sc) M5 (H.next+1) (A0 (C0 q).progs).toNat oM (fun j J=>d9.get j oM) oM f7 (km 401 d0 1) 401 _ _ ⟨1,d0,_,_,_,rfl,oM,oM,rfl,rfl,rfl,j0,i6.refl _ _,g6,rfl⟩) ?_;rintro o' e' H' ⟨f2,(⟨ho,f6,a8,r,x1,x2,x3,b1,hR,g5⟩|⟨ho,b1,f3,c7,a8⟩)⟩
  .obtain⟨D,E⟩:=eY (rs++[.slice sa l.length sc,x1,x2,x3]);have gr:=hR.g;rw[<-E]at gr;obtain⟨a1,c1,e1⟩:=hR.so.slice;obtain⟨a2,c2,e2⟩:=hR.sz.slice;obtain⟨a3,c3,e3⟩:=hR.ho.slice;have f4:D.length=12:=by rw[E];simp [a9]
   have d8:D.all oC=true:=by rw[E,O,e1,e2,e3];rfl
   have g7:ldC (some true) (some 12) 0 D=some (.agg D.toArray):=by rw[eW _ _ _ oM,List.drop_zero,List.take_of_length_le oM]
   have k9:splice [nS,nS,nS,iV 0,iV 0,iV 0,nS,nS,nS,nS,nS,nS] 0 D=D:=by rw[E,O];rfl
   have c7:H'.get (H.next+1)=cE z12 1:=(a8.get _ oM).trans f7;have h6:=u7 c7;obtain⟨H6,b3⟩:=eY (H'.put (H.next+1) (bC D 1));have c6:H6.get (H.next+1)=cE D 1:=by rw[b3];exact j5 h6
   have d6:∀j,j≠H.next+1->H6.get j=H'.get j:=fun j J=>by rw[b3];exact j6 (fun q=>J q.symm)
   have n6:H6.next=H'.next:=by rw[b3,t5]
   have l6:H6.low=min H'.low (H.next+1):=by rw[b3,A4]
   have n7:=a8.next;have X:=c7;simp only[z12]at X;refine J12 ho f2 f6 gr X @fd f4 d8 g7 k9 b3.symm c6 ?_;have e5:i6 H.next H H6:=by rw[b3];exact(d9.trans (a8.weaken oM)).trans (i6.put oM)
   have b7:U0 (QR H lo K false) (QR H lo K true) H6 (u.next+3) u.next (fun j=>j<u.next/\j≠H.next+1) r rs (.slice sa l.length sc) x1 x2 x3:=by
    exact hR.side (b:=H.next+1) ⟨oM,fun q=>q.2 rfl,fun w hw q=>by have:=(hR.inl hw q).1;omega⟩ oM d6
   refine E1 (fun g4 _=>?_) ?_
   .exfalso
    have m6:=g5.l0;obtain⟨l4,l8,rfl⟩:∃a c,x1= .slice (some a) r.sorts.length c:=by
     obtain⟨_,nb,o,_,_,_,_,_,q,_⟩:=(e1▸hR.so.sl:SlI H' H'.next 3 (w9 soE) (.slice a1 r.sorts.length c1) r.sorts).row (i:=0) oM;exact⟨_,_,by rw[e1,q]⟩
    simp only[L9,E,List.all_cons,na1,List.all_append,Bool.and_eq_true]at g4;simp [na0]at g4
   .refine⟨D,0,rfl,e5.ret (oN (a8.lowAll H.next oM d5)),.inr ⟨r,b1,rfl,g5,rs,_,x1,x2,x3,E,?_⟩⟩;have hx:∀j,(j<u.next/\j≠H.next+1)->j<H6.next:=fun j J=>oM;refine⟨b7.st.mono (fun _ _=>rfl) hx iF iF,b7.lb.mono (fun _ _=>rfl) hx (fun _ _ h=>y9 _ _ _ _ _ _ h (fun _ _=>rfl) hx),b7.so.sl,b7.sz.sl,b7.ho.sl⟩
  .have X:=c7;simp only[z12]at X;refine J5 ho f2 f3 X @fd ?_;have e5:i6 H.next H H':=d9.trans (a8.weaken oM);refine E1 (fun _ _=>?_) ?_
   .exact⟨z12,13,rfl,i6.refl _ _,.inl ⟨b1,rfl,rfl⟩⟩
   .exact⟨z12,13,rfl,e5.ret (a8.lowAll H.next oM d5),.inl ⟨b1,rfl,rfl⟩⟩
def MO(r:ReD)(k:Nat):Prop:=∃(i a b:Nat)(e:EvD),r.how[k]?=some ((i:Int),(a:Int),(b:Int))/\r.labels[i]?=some e/\a<k/\b<k/\r.size.getD k 0=r.size.getD a 0+r.size.getD b 0+1/\R5 r.sorts e.kind a b=true/\r.sorts[k]?=some (I4 r.strat e (r.sorts.getD a soZ) (r.sorts.getD b soZ))
structure R4(r:ReD)(m:Int):Prop where
 l2:r.size.length=r.sorts.length
 l3:r.how.length=r.sorts.length
 s0:r.sorts[0]?=some soZ
 z0:r.size[0]?=some 0
 from_:∀k,1<=k->k<r.sorts.length->MO r k
 rise:∀k,1<=k->k<r.sorts.length->r.size.getD (k-1) 0<=r.size.getD k 0
 apart:∀(i j:Nat)(x y:SoD),i<j->r.sorts[i]?=some x->r.sorts[j]?=some y->aP y x=false
 most:∀k,k<r.sorts.length->r.size.getD k 0<=m
 l1:r.sorts.length<=25
theorem R4.later{r:ReD}{m u:Int}(h:R4 r m)(D:m<=u):R4 r u:=⟨h.l2,h.l3,h.s0,h.z0,h.from_,h.rise,h.apart,fun k z=>Int.le_trans (h.most k z) D,h.l1⟩
theorem P7{α:Type}(l:List α)(x d:α)(k:Nat)(u:k<l.length):(l++[x]).getD k d=l.getD k d:=by
 rw[List.getD_eq_getElem?_getD,List.getD_eq_getElem?_getD,List.getElem?_append_left u]
theorem bB{α:Type}(l:List α)(x d:α):(l++[x]).getD l.length d=x:=by
 rw[List.getD_eq_getElem?_getD,List.getElem?_append_right lR];simp
theorem uU{z:List SoD}{x:SoD}{u f n:Int}(h:R5 z u f n=true):R5 (z++[x]) u f n=true:=by
 simp only[R5,knB,Bool.and_eq_true,decide_eq_true_eq,List.length_append,List.length_singleton]at h ⊢;obtain⟨⟨⟨D,O⟩,E,S⟩,J⟩:=h;refine⟨⟨⟨D,oM⟩,E,oM⟩,?_⟩;rw[P7 _ _ _ _ oM];exact J
theorem R4.add{r:ReD}{size:Int}(h:R4 r size){i a b:Nat}{e:EvD}(hl:r.labels[i]?=some e)(ha:a<r.sorts.length)(hb:b<r.sorts.length)(hs:size=r.size.getD a 0+r.size.getD b 0+1)(hm:R5 r.sorts e.kind a b=true):
  R4 (am r (I4 r.strat e (r.sorts.getD a soZ) (r.sorts.getD b soZ)) size (i,a,b)).1 size:=by
 obtain⟨x,hx⟩:=eY (I4 r.strat e (r.sorts.getD a soZ) (r.sorts.getD b soZ));rw[<-hx];unfold am;split
 .exact h
 .rename_i a3;split
  .exact h
  .rename_i a4;simp only[Bool.or_eq_true,decide_eq_true_eq,not_or]at a4;have E:(r.sorts++[x]).length=r.sorts.length+1:=sM;have W:∀y∈r.sorts,aP x y=false:=fun y hy=>by
    cases hq:aP x y with
    |false=>rfl
    |true=>exact absurd (List.any_eq_true.2 ⟨y,hy,hq⟩) a3
   have l0:0<r.sorts.length:=oM;have l2:=h.l2;have l3:=h.l3;refine⟨by simp [h.l2],by simp [h.l3],by rw[List.getElem?_append_left l0];exact h.s0,by rw[List.getElem?_append_left oM];exact h.z0,fun k S J=>?_,fun k S J=>?_,fun i j u v a1 hu O=>?_,fun k S=>?_,by show(r.sorts++[x]).length<=25;omega⟩
   .have U:k<r.sorts.length+1:=by rw[<-E];exact J
    by_cases D:k<r.sorts.length
    .obtain⟨i',a',X,e',f1,f2,f3,f4,f5,f6,f7⟩:=h.from_ k S D;refine⟨i',a',X,e',by rw[List.getElem?_append_left oM];exact f1,f2,f3,f4,?_,uU f6,?_⟩
     .show(r.size++[size]).getD k 0=(r.size++[size]).getD a' 0+(r.size++[size]).getD X 0+1;rw[P7 _ _ _ _ oM,P7 _ _ _ _ oM,P7 _ _ _ _ oM];exact f5
     .show(r.sorts++[x])[k]?=some (I4 r.strat e' ((r.sorts++[x]).getD a' soZ) ((r.sorts++[x]).getD X soZ));rw[List.getElem?_append_left D,P7 _ _ _ _ oM,P7 _ _ _ _ oM];exact f7
    .have z:k=r.sorts.length:=oM;subst z;refine⟨i,a,b,e,by rw[List.getElem?_append_right oM,l3,Nat.sub_self];rfl,hl,ha,hb,?_,uU hm,?_⟩
     .show(r.size++[size]).getD r.sorts.length 0=(r.size++[size]).getD a 0+(r.size++[size]).getD b 0+1;have e1:(r.size++[size]).getD r.sorts.length 0=size:=by rw[<-l2];exact bB _ _ _
      rw[e1,P7 _ _ _ a oM,P7 _ _ _ b oM];exact hs
     .show(r.sorts++[x])[r.sorts.length]?=some (I4 r.strat e ((r.sorts++[x]).getD a soZ) ((r.sorts++[x]).getD b soZ));rw[List.getElem?_append_right lR,Nat.sub_self,P7 _ _ _ _ ha,P7 _ _ _ _ hb,<-hx];rfl
   .have U:k<r.sorts.length+1:=by rw[<-E];exact J
    show(r.size++[size]).getD (k-1) 0<=(r.size++[size]).getD k 0;rw[P7 _ _ _ _ oM];by_cases D:k<r.sorts.length
    .rw[P7 _ _ _ _ oM];exact h.rise k S D
    .have z:k=r.size.length:=oM;rw[z,bB];exact h.most _ oM
   .have hj:=(gS O).1;simp only[List.length_append,List.length_singleton]at hj;rw[List.getElem?_append_left oM]at hu;by_cases a2:j<r.sorts.length
    .rw[List.getElem?_append_left a2]at O;exact h.apart i j u v a1 hu O
    .rw[List.getElem?_append_right oM]at O;have:j-r.sorts.length=0:=oM;rw[this]at O;simp at O;subst O;exact W u (mG hu)
   .have a5:k<r.sorts.length+1:=by rw[<-E];exact S
    show(r.size++[size]).getD k 0<=size;by_cases D:k<r.sorts.length
    .rw[P7 _ _ _ _ oM];exact h.most k D
    .have z:k=r.size.length:=oM;rw[z,bB];exact Int.le_refl _
theorem N9{α:Type}{l m:List α}(h:l<+:m){k:Nat}(u:k<l.length)(d:α):m.getD k d=l.getD k d:=by
 obtain⟨t,rfl⟩:=h;rw[List.getD_eq_getElem?_getD,List.getD_eq_getElem?_getD,List.getElem?_append_left u]
theorem fV{size:Int}{a b:Nat}:∀(l:List EvD)(i:Nat)(r:ReD),R4 r size->r.labels.drop i=l->a<r.sorts.length->b<r.sorts.length->size=r.size.getD a 0+r.size.getD b 0+1->R4 (M9 size a b l i r).1 size/\r.size<+:(M9 size a b l i r).1.size/\(M9 size a b l i r).1.labels=r.labels/\(M9 size a b l i r).1.strat=r.strat
 |[],i,r,h,_,_,_,_=>⟨h,List.prefix_rfl,rfl,rfl⟩
 |e::l,i,r,h,hd,ha,hb,hs=>by
  have J:r.labels[i]?=some e:=by rw[<-List.head?_drop,hd];rfl
  have u:r.labels.drop (i+1)=l:=by rw[<-List.tail_drop,hd];rfl
  rw[M9];have ta:(a:Int).toNat=a:=tN a;have tb:(b:Int).toNat=b:=tN b;rw[ta,tb];split
  .rename_i O;have D:=h.add J ha hb hs O;obtain⟨p1,p2,z,E⟩:=eF r (I4 r.strat e (r.sorts.getD a soZ) (r.sorts.getD b soZ)) size (i,a,b);have l2:=h.l2;split
   .obtain⟨S,U,W,X⟩:=fV l (i+1) _ D (by rw[p2];exact u) (Nat.lt_of_lt_of_le ha E.length_le) (Nat.lt_of_lt_of_le hb E.length_le) (by rw[N9 z oM,N9 z oM];exact hs);exact⟨S,z.trans U,W.trans p2,X.trans p1⟩
   .exact⟨D,z,p2,p1⟩
  .exact fV l (i+1) r h u ha hb hs
theorem kP{size:Int}{m:Nat}{s0:List Int}:∀(L:List (Nat×Nat))(r:ReD),R4 r size->(∀x∈L,x.1<m/\x.2<m/\size=s0.getD x.1 0+s0.getD x.2 0+1)->m<=s0.length->s0<+:r.size->R4 (W7 size L r).1 size/\(W7 size L r).1.labels=r.labels/\(W7 size L r).1.strat=r.strat
 |[],r,h,_,_,_=>⟨h,rfl,rfl⟩
 |x::L,r,h,hL,hm,hs=>by
  obtain⟨h1,h2,E⟩:=hL x sM;have J:=hs.length_le;have l2:=h.l2;obtain⟨u,X,z,D⟩:=fV r.labels 0 r h (by rw[List.drop_zero]) (show x.1<r.sorts.length from oM) (show x.2<r.sorts.length from oM) (by rw[N9 hs oM,N9 hs oM];exact E);rw[W7];split
  .obtain⟨S,U,W⟩:=kP L _ u (fun y O=>hL y (by simp [O])) hm (hs.trans X);exact⟨S,U.trans z,W.trans D⟩
  .exact⟨u,z,D⟩
theorem uz{r:ReD}{size:Int}(h:R4 r size):R4 (fp r size).1 size/\(fp r size).1.labels=r.labels/\(fp r size).1.strat=r.strat:=by
 have l2:=h.l2;refine kP (m:=r.sorts.length) (s0:=r.size) _ r h (fun x D=>?_) oM List.prefix_rfl;unfold aO at D;obtain⟨a,O,z⟩:=List.mem_flatMap.1 D;unfold ic at z;obtain⟨b,u,rfl⟩:=List.mem_map.1 z;obtain⟨E,J⟩:=List.mem_filter.1 u;exact⟨List.mem_range.1 O,List.mem_range.1 E,by simpa using (dT J).symm⟩
theorem nZ:∀(k:Nat)(r:ReD)(size:Int){u:ReD},R4 r size->km k r size=some u->(∃m,R4 u m)/\u.labels=r.labels/\u.strat=r.strat
 |0,r,size,u,h,hr=>by rw[km]at hr;cases hr;exact⟨⟨_,h⟩,rfl,rfl⟩
 |k+1,r,size,u,h,hr=>by
  rw[km]at hr;split at hr
  .split at hr
   .obtain⟨J,O,S⟩:=uz h;obtain⟨z,D,E⟩:=nZ k _ (size+1) (J.later oM) hr;exact⟨z,D.trans O,E.trans S⟩
   .cases hr
  .cases hr;exact⟨⟨_,h⟩,rfl,rfl⟩
theorem gi{q:Q}{r:ReD}(h:kV q=some r):(∃m,R4 r m)/\r.strat=C0 q/\∃l,V4 (spQ q)=some l/\r.labels=l:=by
 unfold kV at h;split at h
 .cases h
 .rename_i l J;obtain⟨S,U,W⟩:=nZ 401 ⟨C0 q,l,[soZ],[0],[(0,0,0)]⟩ 1 ⟨rfl,rfl,rfl,rfl,fun k z u=>by simp at u;omega,fun k z u=>by simp at u;omega,fun i j x y D X O=>by
   have:=(gS O).1;simp at this;omega,fun k E=>by
   have:k=0:=by simpa using E
   subst this;show(0:Int)<=1;omega,by simp⟩ h
  exact⟨S,W,l,J,U⟩
def SlO(H:N7)(F:Nat->Prop)(sz:Nat){α:Type}(R:LV->α->Prop)(v:Value)(l:List α):Prop:=
 (v=nS/\l=[])\/
 ∃b o c,v= .slice (some ⟨b,o,none⟩) l.length c/\
  (l=[]\/∃cs,F b/\H.get b=some (.cells cs true sz)/\o+l.length*sz<=cs.length/\∀(i:Nat) a,l[i]?=some a->R ((cs.drop (o+i*sz)).take sz) a)
theorem SlO.mono{H H':N7}{F F':Nat->Prop}{sz:Nat}{α:Type}{R:LV->α->Prop}{v:Value}{l:List α}(h:SlO H F sz R v l)(J:∀j,F j->H'.get j=H.get j) (E:∀j,F j->F' j):SlO H' F' sz R v l:=by
 rcases h with h|⟨b,o,c,O,h⟩
 .exact .inl h
 .exact .inr ⟨b,o,c,O,h.imp id fun⟨cs,u,z,D⟩=>⟨cs,E _ u,(J _ u).trans z,D⟩⟩
theorem SlO.slf{H:N7}{F:Nat->Prop}{sz:Nat}{α:Type}{R:LV->α->Prop}{v:Value}{l:List α}(h:SlO H F sz R v l):SlF H F sz R v l:=by
 rcases h with h|⟨b,o,c,E,h⟩
 .exact .inl h
 .exact .inr ⟨b,o,c,E,h.imp id fun⟨cs,u,z,D⟩=>⟨cs,true,u,z,D⟩⟩
theorem u6.slo{H:N7}{lo sz:Nat}{α:Type}{R:LV->α->Prop}{v:Value}{l:List α}(h:u6 H lo sz R v l):SlO H (fun j=>lo<=j/\j<H.next) sz R v l:=by
 obtain⟨cs,z,D⟩:=h;rcases z with⟨rfl,u,rfl⟩|⟨b,c,rfl,u,E,O⟩
 .exact .inl ⟨rfl,by simpa using u⟩
 .refine .inr ⟨b,0,c,rfl,.inr ⟨cs,⟨E,u7 u⟩,u,oM,fun i a J=>?_⟩⟩;rw[Nat.zero_add];exact D.2 i a J
def EvO(H:N7)(F:Nat->Prop)(cs:LV)(e:EvD):Prop:=∃v,cs=[iV e.kind,.string e.space,.string e.loc,v,.string e.text]/\SlO H F 3 (w9 atE) v e.attrs
theorem EvO.mono{H H':N7}{F F':Nat->Prop}{cs:LV}{e:EvD}(h:EvO H F cs e)(E:∀j,F j->H'.get j=H.get j) (D:∀j,F j->F' j):EvO H' F' cs e:=by
 obtain⟨v,u,z⟩:=h;exact⟨v,u,z.mono E D⟩
structure ip(lo:Nat)(H:N7)(v:Value)(l:List EvD)(G:Nat->Prop):Prop where
 own:u6 H lo 5 (EvO H G) v l
 fr:∀j,G j->lo<=j/\j<H.next/\¬l7 v j
theorem ip.keep{lo:Nat}{H H':N7}{v:Value}{l:List EvD}{G:Nat->Prop}(h:ip lo H v l G)(u:i6 H.next H H'):ip lo H' v l G:=by
 have:=u.next;exact⟨(h.own.imp fun cs e q=>q.mono (fun j z=>u.get j (h.fr j z).2.1) (fun _ h=>h)).keep u,fun j z=>by have:=h.fr j z;exact⟨this.1,oM,this.2.2⟩⟩
theorem ip.app{lo n:Nat}{H:N7}{v x:Value}{l l2:List EvD}{G G2:Nat->Prop}(h:ip lo H v l G)(S:SlI H n 5 (EvO H G2) x l2)(E:∀j,G2 j->lo<=j/\j<H.next/\¬l7 v j) (hl:l.length+l2.length<=1000000) (J:lo<=H.next):
  Ret (C2 prog H [35,35] v x) H fun v' H'=>ip lo H' v' (l++l2) (fun j=>G j\/G2 j)/\ak lo v H v' H':=by
 have X:u6 H lo 5 (EvO H (fun j=>G j\/G2 j)) v l:=h.own.imp fun cs e q=>q.mono (fun _ _=>rfl) (fun _=> .inl);have q2:SlI H n 5 (EvO H (fun j=>G j\/G2 j)) x l2:=S.mono (fun _ _=>rfl) lR (fun cs e q=>q.mono (fun _ _=>rfl) (fun _=> .inr));obtain⟨v',O,H',r1,r2,r3,D⟩:=X.appendF (P:=prog) (t:=35) (by exact lQ.2.2.2.2.2.2) S9.1 S9.2.1 S9.2.2.1 oM oM q2 oM J;have hn:=D.next;have u:∀j,(G j\/G2 j)->lo<=j/\j<H.next/\¬l7 v j:=fun j z=>z.elim (h.fr j) (E j);refine⟨v',O,H',r1,r2,⟨r3.imp fun cs e q=>q.mono (fun j z=>D.but j (u j z).2.1 (u j z).2.2) (fun _ h=>h),fun j z=>?_⟩,D⟩;obtain⟨U,k2,W⟩:=u j z;refine⟨U,oM,fun q=>?_⟩;rcases D.new j q with q|q
 .exact W q
 .omega
def wE:EvD:=⟨3,eB,eB,[],eB⟩
def bn(r:ReD):Nat->Int->List EvD
 |0,_=>[]
 |n+1,k=>if k<=0\/(r.sorts.length:Int)<=k then [] else
  match r.how[k.toNat]? with
  |some (i,a,b)=>match r.labels[i.toNat]? with
   |some e=>([e]++(if e.kind=1 then bn r n a++[wE] else []))++bn r n b
   |none=>[]
  |none=>[]
theorem gu{r:ReD}{m:Int}(U:R4 r m)(z:∀x∈r.size,0<=x/\x<=200):∀(n:Nat)(k:Int),((bn r n k).length:Int)<=2*r.size.getD k.toNat 0:=by
 have u:∀i,0<=r.size.getD i 0:=fun i=>by
  rw[List.getD_eq_getElem?_getD];cases W:r.size[i]? with
  |none=>exact Int.le_refl _
  |some x=>exact(z x (mG W)).1
 intro n;induction n with
 |zero=>intro k;have:=u k.toNat;simp only[bn,List.length_nil];omega
 |succ n D=>
  intro k;rw[bn];split
  .have:=u k.toNat;simp only[List.length_nil];omega
  .rename_i hk;obtain⟨i,a,b,e,E,J,X,f4,f5,f6,f7⟩:=U.from_ k.toNat oM oM;rw[E];simp only[Int.toNat_natCast];rw[J];have O:=D a;have S:=D b;rw[Int.toNat_natCast]at O S;have za:=u a;simp only[List.length_append,List.length_singleton];split
   .simp only[List.length_append,List.length_singleton];omega
   .simp only[List.length_nil];omega
theorem gV{r:ReD}{m:Int}(J:R4 r m):∀(n u:Nat)(k:Int),k.toNat<n->k.toNat<u->bn r n k=bn r u k:=by
 intro n;induction n with
 |zero=>intro u k h;omega
 |succ n z=>
  intro u k h h';obtain⟨p,rfl⟩:∃p,u=p+1:=⟨u-1,oM⟩
  rw[bn,bn];split
  .rfl
  .rename_i hk;obtain⟨i,a,b,e,D,E,O,S,U,W,X⟩:=J.from_ k.toNat oM oM;rw[D];simp only[Int.toNat_natCast];rw[E];have ta:(a:Int).toNat=a:=tN a;have tb:(b:Int).toNat=b:=tN b;simp only;rw[z p a oM oM,z p b oM oM]
theorem cT.mono{H H':N7}{F F':Nat->Prop}{E J:LV->Q->Prop}{D:LV}{r:ReD}(h:cT H F E J D r)(z:∀j,F j->H'.get j=H.get j) (u:∀j,F j->F' j):cT H' F' E J D r:=by
 obtain⟨rs,vl,w1,w2,w3,O,S,U,W,X,h5⟩:=h;exact⟨rs,vl,w1,w2,w3,O,S.mono z u iF iF,U.mono z u (fun _ _ q=>y9 _ _ _ _ _ _ q z u),W.mono z u iF,X.mono z u iF,h5.mono z u iF⟩
theorem ip.low{lo:Nat}{H:N7}{v:Value}{l:List EvD}{G:Nat->Prop}(h:ip lo H v l G)(n:Nat):ip lo ⟨H.bs,n⟩ v l G:=
 ⟨(h.own.imp fun cs e q=>q.mono (fun _ _=>rfl) (fun _ h=>h)).low n,h.fr⟩
def vY(H:N7)(l:List EvD)(v:Value)(H':N7):Prop:=(∃G,ip H.next H' v l G)/\i6 H.next H H'
theorem JB(Rp Rt:LV->Q->Prop)(r:ReD)(m:Int)(hg:R4 r m)(d0:∀x∈r.size,0<=x/\x<=200) (k1:∀e∈r.labels,e.attrs.length<=1000000):∀(n:Nat)(k:Int)(H:N7)(z:LV),k.toNat<=n->cT H (· <H.next) Rp Rt z r->z.length=12->z.all oC=true->
  Ret (CL prog t6 14 [.agg z.toArray,iV k] H) H (vY H (bn r (n+1) k)):=by
 intro n;induction n using Nat.strongRecOn with
 |ind n ih=>
 intro k H z o2 hR a8 J;have j2:=hR;obtain⟨rs,vl,w1,w2,w3,a7,o5,e3,k7,o6,e2⟩:=hR;have d1:rs.length=8:=by rw[a7]at a8;simpa using a8
 have q8:z[8]?=some vl:=by rw[a7,List.getElem?_append_right oM,d1];rfl
 have q9:z[9]?=some w1:=by rw[a7,List.getElem?_append_right oM,d1];rfl
 have g0:z[11]?=some w3:=by rw[a7,List.getElem?_append_right oM,d1];rfl
 obtain⟨sa,sc,rfl⟩:=k7.slice;obtain⟨la,lc,rfl⟩:=e3.slice;obtain⟨ha,hc,rfl⟩:=e2.slice;obtain⟨H1,O,n1,g1,s1⟩:=pushF H (bC z 1);rw[j7 QA rfl _ sM,bn];have c5:vY H [] (nS) H:=⟨⟨fun _=>False,⟨[],.inl ⟨rfl,rfl,rfl⟩,D2.nil⟩,fun j D=>D.elim⟩,i6.refl _ _⟩
 rcases b1:decide (k<=0)with _|_
 .have m5:=dF b1;rcases b2:decide ((r.sorts.length:Int)<=k)with _|_
  .have m6:=dF b2;rw[if_neg oM];obtain⟨i,a,b,e,f1,f2,f3,f4,f5,f6,f7⟩:=hg.from_ k.toNat oM oM;rw[f1];simp only[Int.toNat_natCast];rw[f2];simp only;have o4:=hg.l3;have o1:=(gS f2).1;obtain⟨hw,hb,ho,o0,m1,k3,hx,_,rfl,j0,k4,l8,b0,m9,j3⟩:=e2.row (i:=k.toNat) oM;rw[f1]at hx;cases hx;obtain rfl:k3=hoE ((i:Int),(a:Int),(b:Int)):=j3;obtain⟨ev,lb,lo,k8,f8,E,e6,_,rfl,j1,k5,m0,b3,n0,j4⟩:=e3.row (i:=i) oM;rw[f2]at e6;cases e6;obtain⟨av,a3,e4⟩:=id j4;have b5:E.length=5:=by rw[a3];rfl
   have b9:E.all oC=true:=by
    obtain⟨aa,ac,rfl⟩:=e4.slice;rw[a3];rfl
   have o7:E[0]?=some (.int .i64 e.kind):=by rw[a3];rfl
   have e7:E[3]?=some av:=by rw[a3];rfl
   have o3:((k.toNat:Nat):Int)=k:=Int.toNat_of_nonneg oM;obtain⟨H2,S⟩:=eY (H1.push (bC [iV 0,iV 0,iV 0] 1));have n2:H2.next=H.next+2:=by rw[S,i5,n1]
   have x2:H2.get (H.next+1)=cE [iV 0,iV 0,iV 0] 1:=by rw[S,<-n1];exact j9
   obtain⟨H3,U⟩:=eY (H2.put (H.next+1) (bC [iV i,iV a,iV b] 1));have n3:H3.next=H.next+2:=by rw[U,t5,n2]
   have x3:H3.get (H.next+1)=cE [iV i,iV a,iV b] 1:=by rw[U];exact j5 oM
   have y3:∀j,j<H.next+1->H3.get j=H1.get j:=fun j D=>by rw[U,j6 oM,S,i7 oM]
   obtain⟨H4,W⟩:=eY (H3.push (bC [iV 0,.string eB,.string eB,nS,.string eB] 1));have n4:H4.next=H.next+3:=by rw[W,i5,n3]
   have x4:H4.get (H.next+2)=cE [iV 0,.string eB,.string eB,nS,.string eB] 1:=by rw[W,<-n3];exact j9
   obtain⟨H5,X⟩:=eY (H4.put (H.next+2) (bC E 1));have n5:H5.next=H.next+3:=by rw[X,t5,n4]
   have x5:H5.get (H.next+2)=cE E 1:=by rw[X];exact j5 oM
   have y5:∀j,j<H.next+2->H5.get j=H3.get j:=fun j D=>by rw[X,j6 oM,W,i7 oM]
   have z5:∀j,j<H.next->H5.get j=H.get j:=fun j D=>by rw[y5 j oM,y3 j oM,s1.get j D]
   have s5:i6 H.next H H5:=by
    rw[X,W,U,S];exact s1.trans ((((i6.push oM).trans (i6.put oM)).trans (i6.push (by rw[t5,i5];omega))).trans (i6.put oM))
   obtain⟨v2,h2,H6,g4,c7,d9,s6⟩:=zk (w9 atE) H5 H.next av e.attrs oM (e4.mono (fun j D=>z5 j D) (fun _ h=>h) iF) (k1 e (mG f2));have n6:=s6.next;obtain⟨u,a4⟩:=eY (E.set 3 v2);have b4:u.length=5:=by rw[a4];simp [b5]
   obtain⟨p0,p3,b8⟩:=d9.slice;have f9:Value.oneCell' v2=true:=by rw[b8];rfl
   have d4:v2.cells.toList=[v2]:=by rw[b8];rfl
   have a5:u=[iV e.kind,.string e.space,.string e.loc,v2,.string e.text]:=by rw[a4,a3];rfl
   have i1:u.all oC=true:=by rw[a5,b8];rfl
   have g7:splice E 3 [v2]=u:=by rw[a4,a3];rfl
   have g6:splice [iV 0,.string eB,.string eB,nS,.string eB] 0 E=E:=by rw[a3];rfl
   have h9:z.take 12=z:=List.take_of_length_le oM;have o9:E.take 5=E:=List.take_of_length_le oM;have h7:u.take 5=u:=List.take_of_length_le oM;have x6:=(s6.get (H.next+2) oM).trans x5;obtain⟨H7,a1⟩:=eY (H6.put (H.next+2) (bC u 1));have n7:H7.next=H6.next:=by rw[a1,t5]
   have x7:H7.get (H.next+2)=cE u 1:=by rw[a1];exact j5 oM
   have d5:u[0]?=some (.int .i64 e.kind):=by rw[a5];rfl
   obtain⟨H8,a2⟩:=eY (H7.push (bC u 5));have n8:H8.next=H6.next+1:=by rw[a2,i5,n7]
   have d3:bsA prog (some 51) H7 1 [(0,.agg u.toArray)]=some (sL H7.next 1 1,H8):=by
    rw[a2,a5,b8];simp only[C7,S9,C8];rfl
   have x8:H8.get (H.next+2)=cE u 1:=by rw[a2,i7 oM];exact x7
   have c0:=(s1.get hb j0).trans k4;have c3:H3.get lb=some (.cells k8 f8 5):=by rw[y3 lb oM,s1.get lb j1];exact k5
   have l6:=y3 H.next oM;have g3:=l6.trans g1;have y8:∀j,j<H.next+2->H8.get j=H5.get j:=fun j D=>by rw[a2,i7 oM,a1,j6 oM,s6.get j oM]
   have g8:H8.get H.next=cE z 1:=by rw[y8 _ oM,y5 _ oM];exact g3
   have h8:H8.get (H.next+1)=cE [iV i,iV a,iV b] 1:=by rw[y8 _ oM,y5 _ oM];exact x3
   have z8:∀j,j<H.next->H8.get j=H.get j:=fun j D=>by rw[y8 j oM,z5 j D]
   have e8:H1.low=H.next:=by rw[O];rfl
   have e9:H.next<=H5.low:=by rw[X,A4,W,l9,U,A4,S,l9,e8];omega
   have m4:H.next<=H6.low:=s6.lowAll H.next oM e9;have c4:H.next<=H8.low:=by rw[a2,l9,a1,A4];omega
   have s8:i6 H.next H H8:=⟨oM,fun k hk q=>oM,z8⟩
   have m3:=gu hg d0 (b+1) b;have m2:=gu hg d0 (a+1) a;have g9:∀i,r.size.getD i 0<=200:=fun i=>by
    rw[List.getD_eq_getElem?_getD];cases hq:r.size[i]? with
    |none=>decide
    |some x=>exact(d0 x (mG hq)).2
   have zb:=g9 (b:Int).toNat;have za:=g9 (a:Int).toNat;have e1:∀Hx:N7,i6 H.next H Hx->cT Hx (· <Hx.next) Rp Rt z r:=fun Hx hx=>j2.mono (fun j D=>hx.get j D) (fun j D=>by have:=hx.next;omega);have O0:ip H.next H8 (sL H7.next 1 1) [e] (fun j=>H5.next<=j/\j<H6.next):=by
    refine⟨⟨u,.inr ⟨H7.next,1,rfl,by rw[a2];exact j9,oM,b4⟩,D2.one b4 ⟨v2,a5,d9.slo.mono (fun j D=>?_) (fun _ h=>h)⟩⟩,fun j D=>⟨oM,oM,by rw[E6];omega⟩⟩;rw[a2,i7 oM,a1,j6 oM]
   have d6:∀(Hc:N7)(w:Value)(l:List EvD)(G:Nat->Prop),i6 H.next H Hc->H.next<=Hc.low->ip H.next Hc w l G->1<=l.length->l.length<=1000->
     ∃v h v' h',CL prog t6 14 [.agg z.toArray,iV (b:Int)] Hc=dL v h/\C2 prog (h.getD Hc) [35,35] w v=dL v' h'/\Ret (some (D6 v' H (h'.getD (h.getD Hc)))) H (vY H (l++bn r n b)):=by
    intro Hc w l G sc lc hO l1 l2;have nc:=sc.next;obtain⟨v3,h3,H9,b6,c6,⟨G3,O3⟩,s9⟩:=ih b oM (b:Int) Hc z (by rw[Int.toNat_natCast];exact lR) (e1 Hc sc) a8 J;have n9:=s9.next;obtain⟨v4,h4,i0,ra,l4,O4,b7⟩:=(hO.keep s9).app (x:=v3) (n:=H9.next) O3.own.sl (fun j D=>by
     have:=O3.fr j D;exact⟨oM,this.2.1,fun q=>by have:=(hO.own.lt q).2;omega⟩) oM oM
    have o8:=b7.next;have b7:=b7.stay;refine⟨v3,h3,v4,h4,b6,by rw[c6];exact ra,?_⟩;rw[c6,l4];have k2:bn r (b+1) b=bn r n b:=gV hg _ _ _ (by rw[Int.toNat_natCast];omega) (by rw[Int.toNat_natCast];omega);rw[k2]at O4;have hs:i6 H.next H i0:=sc.trans ((s9.weaken oM).trans b7);refine E1 (fun k6 _=>?_) ⟨⟨_,O4.low _⟩,hs.ret (b7.lowAll _ lR (s9.lowAll _ oM lc))⟩
    exfalso
    obtain⟨m7,i3,m8⟩:=O4.own;rcases i3 with⟨_,h0,_⟩|⟨b',c',rfl,_⟩
    .rw[List.length_append]at h0;omega
    .simp [L9,na1,na0]at k6
   rcases bk:decide (e.kind=1)with _|_
   .have c8:=dF bk;rw[if_neg c8,List.append_nil];obtain⟨v,h,v',h',b6,ra,a6⟩:=d6 H8 _ [e] _ s8 c4 O0 sM sM;refine J30 J O.symm b1 b2 g1 q8 q9 g0 n1 S.symm x2 b0 c0 U.symm n3 (aI x3 g3) (aI c3 b3) (aI W.symm x4) (aI b5 b9) (aI g6 X.symm) (aI x5 e7) (aI g4 c7) (aI x6 f9) (aI d4 g7) (aI a1.symm x7) (aI h7 d3) (aI x8 d5) (aI bk g8) (aI h8 h9) (aI b6 ra) ?_;exact a6
   .have c8:=dT bk;rw[if_pos c8];obtain⟨v1,h1,Ha,g2,d2,⟨G1,O1⟩,a9⟩:=ih a oM (a:Int) H8 z (by rw[Int.toNat_natCast];exact lR) (e1 H8 s8) a8 J;have na:=a9.next;obtain⟨v5,h5,Hb,k9,g5,O5,w5⟩:=(O0.keep a9).app (x:=v1) (n:=Ha.next) O1.own.sl (fun j D=>by
     have:=O1.fr j D;exact⟨oM,this.2.1,by rw[E6];omega⟩) (by rw[List.length_singleton];omega) oM
    have nb:=w5.next;obtain⟨Hk,d8,nk,-,sk⟩:=pushE Hb (bC [iV 3,.string eB,.string eB,nS,.string eB] 5);have i2:bsA prog (some 51) Hb 1 [(0,.agg #[iV 3,.string eB,.string eB,nS,.string eB])]=some (sL Hb.next 1 1,Hk):=by
     rw[d8];simp only[C7,S9,C8];rfl
    have Ok:u6 Hk H.next 5 (EvO Hk fun _=>False) (sL Hb.next 1 1) [wE]:=by
     rw[d8];exact u6.fresh rfl oM (D2.one rfl ⟨_,rfl,.inl ⟨rfl,rfl⟩⟩)
    obtain⟨v6,h6,Hd,rc,l5,O6,w6⟩:=(O5.keep sk).app (x:=sL Hb.next 1 1) (n:=Hk.next) (G2:=fun _=>False) Ok.sl (fun j D=>D.elim) (by simp only[List.length_append,List.length_singleton];omega) oM;have nd:=w6.next;have sd:i6 H.next H Hd:=s8.trans ((a9.weaken oM).trans (w5.stay.trans ((sk.weaken oM).trans w6.stay)));have f0:H.next<=Hd.low:=w6.stay.lowAll _ lR (sk.lowAll _ oM (w5.stay.lowAll _ lR (a9.lowAll _ oM c4)));have yd:∀j,j<H.next+2->Hd.get j=H8.get j:=fun j D=>by
     have e5:¬l7 v5 j:=fun q=>by
      rcases w5.new j q with q|q
      .rw[E6]at q;omega
      .omega
     rw[w6.but j oM e5,sk.get j oM,w5.but j oM (by rw[E6];omega),a9.get j oM]
    have gd:=(yd H.next oM).trans g8;have hd:=(yd (H.next+1) oM).trans h8;have ga:Ha.get (H.next+1)=cE [iV i,iV a,iV b] 1:=(a9.get _ oM).trans h8;obtain⟨v,h,v',h',b6,ra,a6⟩:=d6 Hd v6 _ _ sd f0 O6 (by simp only[List.length_append,List.length_singleton];omega) (by simp only[List.length_append,List.length_singleton];omega);have k0:bn r (a+1) a=bn r n a:=gV hg _ _ _ (by rw[Int.toNat_natCast];omega) (by rw[Int.toNat_natCast];omega);rw[k0,List.append_assoc [e]]at a6;refine J30 J O.symm b1 b2 g1 q8 (aI q9 g0) (aI n1 S.symm) (aI x2 b0) (aI c0 U.symm) (aI n3 x3) (aI g3 c3) (aI b3 W.symm) (aI x4 b5) (aI b9 g6) (aI X.symm x5) (aI e7 g4) (aI c7 x6) (aI f9 d4) (aI g7 a1.symm) (aI x7 h7) (aI d3 x8) (aI d5 bk) (aI g8 h8) (aI h9 g2) (aI d2 k9) (aI g5 i2) (aI rc l5) (aI gd hd) (aI b6 ra) ?_;exact a6
  .rw[if_pos (.inr (dT b2))];refine J6 J O.symm b1 b2 g1 q9 ?_;have c9:H.next<=H1.low:=by rw[O];exact lR
   refine E1 (fun _ _=>c5) ?_;exact⟨⟨fun _=>False,⟨[],.inl ⟨rfl,rfl,rfl⟩,D2.nil⟩,fun j D=>D.elim⟩,s1.ret c9⟩
 .rw[if_pos (.inl (dT b1))];refine J3 J O.symm b1 ?_;have c9:H.next<=H1.low:=by rw[O];exact lR
  refine E1 (fun _ _=>c5) ?_;exact⟨⟨fun _=>False,⟨[],.inl ⟨rfl,rfl,rfl⟩,D2.nil⟩,fun j D=>D.elim⟩,s1.ret c9⟩
def jC(r:ReD)(e:EvD)(f n:Int):Int:=if R5 r.sorts e.kind f n then ixG (fun y=>aP (I4 r.strat e (r.sorts.getD f.toNat soZ) (r.sorts.getD n.toNat soZ)) y) r.sorts 0 else -1
theorem Fc(Hs:N7)(lo K:Nat)(r:ReD)(N:Nat)(D:WfR r N)(H:N7)(u:LV)(hR:cT H (· <H.next) (QR Hs lo K false) (QR Hs lo K true) u r)(f5:lo<=H.next)(c0:∀j,j<lo->H.get j=Hs.get j) (E:u.all oC=true) (el:LV) (e:EvD) (he:EvF H (· <H.next) el e) (b9:e.attrs.length<=1000000) (f n:Int):
  CL prog t6 18 [.agg u.toArray,.agg el.toArray,iV f,iV n] H=some (.int .i64 (jC r e f n),none):=by
 obtain⟨rs,vl,w1,w2,w3,O,b0,f4,c9,f6,f2⟩:=hR;obtain⟨pa,pc,ga,gc,xa,xc,ea,ec,ta,tc,c7,_⟩:=F1 b0;have b4:rs.length=8:=by rw[c7];rfl
 have b3:u.length=12:=by rw[O];simp [b4]
 have q9:u[9]?=some w1:=by rw[O,List.getElem?_append_right oM,b4];rfl
 obtain⟨av,a2,c8⟩:=id he;have d1:el.length=5:=by rw[a2];rfl
 have a1:el.all oC=true:=by
  obtain⟨aa,ac,rfl⟩:=c8.slice;rw[a2];rfl
 have b6:el[0]?=some (.int .i64 e.kind):=by rw[a2];rfl
 have d2:u.take 12=u:=List.take_of_length_le oM;have b5:el.take 5=el:=List.take_of_length_le oM;have d0:ldC (some true) (some 8) 0 u=some (.agg rs.toArray):=by
  rw[eW _ _ _ oM,O,List.drop_zero,List.take_append_of_le_length oM,List.take_of_length_le oM]
 obtain⟨H1,J,n1,-⟩:=pushF H (bC u 1);obtain⟨H2,z⟩:=eY (H1.push (bC el 1));have n2:H2.next=H.next+2:=by rw[z,i5,n1]
 have hS:i6 H.next H H2:=by rw[z,J];exact(i6.first H _).trans (i6.push (by rw[i5];exact Nat.le_succ _))
 have g1:H2.get H.next=cE u 1:=by rw[z,i7 oM,J];exact j9
 have g2:H2.get (H.next+1)=cE el 1:=by rw[z,<-n1];exact j9
 have d5:H2.low=H.next:=by rw[z,J];rfl
 have S:SlI H2 H2.next 3 (w9 soE) w1 r.sorts:=c9.mono (fun j W=>hS.get j W) (fun j W=>oM) iF;have X:=ET H2 H.next u true 1 g1 r.sorts w1 S q9 el e d1 a1 b6 f n;rw[j7 QD rfl _ sM,jC];rcases bm:R5 r.sorts e.kind f n with _|_
 .rw[bm]at X;exact J8 E a1 J.symm n1 z.symm g2 b5 X trivial
 .rw[bm]at X;have a5:=bm;simp only[R5,knB,Bool.and_eq_true,decide_eq_true_eq]at a5;obtain⟨⟨⟨e6,e7⟩,e8,e9⟩,_⟩:=a5;have U:=S;obtain⟨sa,sc,rfl⟩:=S.slice;obtain⟨fi,f7,oa,d9,d6,b7,b1,_,e1,e4,a6,d3,a3,f0,c4⟩:=U.row (i:=f.toNat) oM;obtain⟨ne,f8,ob,e3,d8,b8,b2,_,e2,e5,a8,d4,a4,f1,c6⟩:=U.row (i:=n.toNat) oM;obtain rfl:b7=soE fi:=c4;obtain rfl:b8=soE ne:=c6;subst e1;cases e2;rw[a6]at a8;cases a8;have a7:r.sorts.getD f.toNat soZ=fi:=by rw[List.getD_eq_getElem?_getD,b1];rfl
  have a9:r.sorts.getD n.toNat soZ=ne:=by rw[List.getD_eq_getElem?_getD,b2];rfl
  have c5:=qw Hs lo K r.strat e fi ne (· <H.next) H2 rs el (b0.mono (fun j W=>hS.get j W) (fun _ h=>h) iF iF) (y9 _ _ _ _ _ _ he (fun j W=>hS.get j W) (fun _ h=>h)) (fun j W=>oM) (fun j W=>by rw[hS.get j oM];exact c0 j W) oM N D.n0 D.st (D.so fi (mG b1)) (D.so ne (mG b2)) b9 D.sz;have f3:=D.l1;have c3:=wX H2 u r.sorts _ U b3 E q9 oM (I4 r.strat e fi ne);rw[a7,a9];exact J17 E a1 J.symm n1 z.symm g1 g2 b5 d2 X d0 q9 a6 a3 a4 c5 c3 trivial
def fn7:=nfF 7 Tryz.f7 [12]
def fn8:=nfF 8 Tryz.f8 [0,0,0,21]
def q0:Q:= .mk 1 eB eB eB [] []
noncomputable def l0:List EvD:=(V4 (spQ q0)).getD []
noncomputable def r0:ReD:=⟨C0 q0,l0,[(false,false,eB),(true,false,eB),(true,true,eB)],[0,1,1],[(0,0,0),(0,0,0),(1,0,0)]⟩
theorem Jy:kV q0=some r0:=kR
theorem row0:(bn r0 2 1).length=2:=kR
theorem OB:ixG (fun y=>aP soZ y) r0.sorts 0=0:=kR
theorem IC(H:N7)(lo k:Nat)(cs:LV)(q:Q)(a2:lo<=H.next)(O:QR H lo k false cs q)(D:gl q=true->OkD false q/\nQ q<=1000):
  CL prog t6 10 [.agg cs.toArray] H=some (.bool (gl q&&lZ q),none):=by
 have W:=F7 O;have ldc:=N5 O;have l0:=O.len;simp only[qSz,bF]at l0;rw[l0]at ldc;obtain⟨J,z,n1,X,s1⟩:=pushF H (bC cs 1);have a1:J.low=H.next:=by rw[z];rfl
 have E:QR J lo k false cs q:=O.mono (fun j hj=>s1.get j oM) lR;have u:=yn J lo k cs q oM E;rw[j7 Qz rfl _ sM];rcases b:gl q with _|_
 .rw[b]at u;exact J5 W z.symm X ldc u trivial
 .rw[b]at u;obtain⟨U,hn⟩:=D b;have S:=yk J lo k cs q oM E U hn;exact J6 W z.symm X ldc u S trivial
theorem JU(H:N7):CL prog gh 9 [] H=some (.bool true,none):=by
 have hq:QR ⟨H.bs,H.next⟩ 0 1 false [iV 1,nS,nS] q0:=⟨_,_,rfl,.inl ⟨rfl,rfl⟩,.inl ⟨rfl,rfl⟩,by decide,by decide,by decide,by decide,by decide,fun _=>⟨rfl,rfl,rfl⟩⟩
 have f0:OkD false q0:=⟨1,kR⟩
 obtain⟨v,h,W,f7,c7,u,er,rfl,s1,a5⟩:=EP 1 ⟨H.bs,H.next⟩ 0 _ q0 (Nat.zero_le _) hq f0 (by decide);rw[Jy]at a5;rcases a5 with⟨h0,_⟩|⟨r,h0,rfl,b0,hR⟩
 .cases h0
 cases h0;rw[j7 fn9 rfl _ sM];have d4:=hR;obtain⟨rs,vl,w1,w2,w3,D,f4,e5,b7,f5,e4⟩:=hR;obtain⟨pa,pc,ga,gc,xa,xc,ea,ec,ta,tc,a9,_⟩:=F1 f4;have c6:rs.length=8:=by rw[a9];rfl
 have S:u.length=12:=by rw[D];simp [c6]
 obtain⟨a1,c1,rfl⟩:=b7.slice;obtain⟨a2,c2,rfl⟩:=f5.slice;obtain⟨a3,c3,rfl⟩:=e4.slice;obtain⟨la,lc,rfl⟩:=e5.slice;have z:u.all oC=true:=by rw[D,a9];rfl
 have q9:u[9]?=some (.slice a1 r0.sorts.length c1):=by rw[D,List.getElem?_append_right oM,c6];rfl
 have f9:splice [nS,nS,nS,iV 0,iV 0,iV 0,nS,nS,nS,nS,nS,nS] 0 u=u:=by rw[D,a9];rfl
 have g0:u.take 12=u:=List.take_of_length_le oM;have nn:H.next<=W.next:=s1.next;obtain⟨H2,a6,n2,x2,-⟩:=pushE W (bC [nS,nS,nS,iV 0,iV 0,iV 0,nS,nS,nS,nS,nS,nS] 1);obtain⟨X,J⟩:=eY (H2.put W.next (bC u 1));have n3:X.next=W.next+1:=by rw[J,t5,n2]
 have x3:X.get W.next=cE u 1:=by rw[J];exact j5 oM
 have y3:∀j,j<W.next->X.get j=W.get j:=fun j hj=>by rw[J,j6 oM,a6,i7 oM]
 have b4:cT X (· <X.next) (QR ⟨H.bs,H.next⟩ 0 1 false) (QR ⟨H.bs,H.next⟩ 0 1 true) u r0:=d4.mono y3 (fun j hj=>oM);obtain⟨⟨m,e3⟩,_,l,hl,g2⟩:=gi Jy;have h5:=jr q0 hl;obtain⟨h7,h1,E,f8,c8,⟨G,c9⟩,U⟩:=(JB _ _ r0 m e3 b0.sb b0.at_ 1 1 X u (by decide) b4 S z).one;have O:SlI X X.next 3 (w9 soE) (.slice a1 r0.sorts.length c1) r0.sorts:=b7.mono y3 (fun j hj=>oM) iF;obtain⟨x1,f6,o1,b2,g5,d2,b9,_,e1,h2,b5,g3,a8,h4,f2⟩:=O.row (i:=1) (by decide);obtain⟨g1,h6,o2,g9,g6,d3,c4,_,e2,h3,b6,g4,f1,d6,f3⟩:=O.row (i:=2) (by decide);subst e1;cases e2;rw[b5]at b6;cases b6;have d0:=d6 1 (by decide);have c0:x1=(true,false,eB):=by have:r0.sorts[1]?=some (true,false,eB):=rfl;rw[this]at b9;cases b9;rfl
 have c5:g1=(true,true,eB):=by have:r0.sorts[2]?=some (true,true,eB):=rfl;rw[this]at c4;cases c4;rfl
 subst c0 c5;obtain rfl:d2=soE (true,false,eB):=f2;obtain rfl:d3=soE (true,true,eB):=f3;have l3:r0.sorts.length=3:=rfl;have a4:ldC (some true) (some 3) (o1+3) b2=some (.agg (soE (true,false,eB)).toArray):=a8;have b1:b2[o1+6+1]?=some (.bool true):=d0;have n4:=U.next;have x4:=(U.get W.next oM).trans x3;have d5:cT E (· <E.next) (QR ⟨H.bs,H.next⟩ 0 1 false) (QR ⟨H.bs,H.next⟩ 0 1 true) u r0:=b4.mono (fun j hj=>U.get j hj) (fun j hj=>oM);have b8:SlI E E.next 3 (w9 soE) (.slice (some ⟨f6,o1,none⟩) r0.sorts.length c1) r0.sorts:=O.mono (fun j hj=>U.get j hj) oM iF;have hf:=aX (wX E u r0.sorts _ b8 S z q9 (by decide) soZ);rw[OB]at hf;have d8:EvF E (· <E.next) [iV 2,.string eB,.string eB,nS,.string ⟨#[120]⟩] ⟨2,eB,eB,[],⟨#[120]⟩⟩:=⟨_,rfl,.inl ⟨rfl,rfl⟩⟩
 have hn:=aX (Fc ⟨H.bs,H.next⟩ 0 1 r0 _ b0 E u d5 (Nat.zero_le _) (fun j hj=>oM) z _ _ d8 (by decide) 0 2);have e9:jC r0 ⟨2,eB,eB,[],⟨#[120]⟩⟩ 0 2= -1:=kR;rw[e9]at hn;obtain⟨g7,g8,b3⟩:=c9.own.slice;rw[row0]at b3;subst b3;have d9:CL prog gh 17 [.agg u.toArray,.agg #[.bool false,.bool false,.string eB]] E=some (.int .i64 0,none):=hf;have e8:CL prog gh 18 [.agg u.toArray,.agg #[iV 2,.string eB,.string eB,nS,.string ⟨#[120]⟩],iV 0,iV 2] E=some (.int .i64 (-1),none):=hn;have d1:A6 [Q5.bool,Q5.bool,Q5.str] (soE (true,false,eB)) [Value.bool true,Value.bool false,Value.string eB]=some true:=kR;have e6:H.next<=W.low:=by
  have:=s1.lowAll H.next lR lR;exact this
 have a7:H.next<=X.low:=by rw[J,A4,a6,l9];omega
 have e7:H.next<=E.low:=U.lowAll H.next oM a7;exact J21 f7 c7 S z f9 a6.symm x2 J.symm x3 q9 l3 b5 a4 b1 g0 f8 c8 x4 d9 e8 d1 trivial
theorem yL:∀(l:List Q)(n m:Int),n<=szL l n m
 |[],n,m=>by rw[szL];exact Int.le_refl _
 |x::l,n,m=>by
  rw[szL];split
  .have:=kA x (m-n) oM;have:=yL l (n+szQ x (m-n)) m;omega
  .exact Int.le_refl _
mutual
theorem zT:∀(q:Q)(m:Int),0<=m->szQ q m<=m->(nQ q:Int)<=szQ q m
 | .mk o s c v a b,m,hm,h=>by
  rw[szQ]at h ⊢;rw[nQ];have h1:=yL b (szL a 1 m) m;have h2:=sS a 1 m oM;have h3:=sS b (szL a 1 m) m h;omega
theorem sS:∀(l:List Q)(n m:Int),szL l n m<=m->n+(nL l:Int)<=szL l n m
 |[],n,m,h=>by rw[szL,nL];omega
 |x::l,n,m,h=>by
  rw[szL]at h ⊢;rw[nL];split at h
  .rename_i hn;rw[if_pos hn];have h1:=yL l (n+szQ x (m-n)) m;have h2:=zT x (m-n) oM oM;have h3:=sS l (n+szQ x (m-n)) m h;omega
  .omega
end
theorem iJ{q:Q}(h:gl q=true):OkD false q/\nQ q<=64:=by
 simp only[gl,Bool.and_eq_true,decide_eq_true_eq]at h;have:=zT q 64 oM h.1;exact⟨⟨16,h.2⟩,oM⟩
def AtW(cs:LV)(a:AtD):Prop:=cs=[.string a.space,.string a.loc,.string a.val]
def EvW(H:N7)(lo:Nat)(cs:LV)(e:EvD):Prop:=∃v,cs=[iV e.kind,.string e.space,.string e.loc,v,.string e.text]/\SlI H lo 3 AtW v e.attrs/\e.attrs.length<=1048576
abbrev vU(H:N7)(lo:Nat)(v:Value)(l:List EvD):Prop:=SlI H lo 5 (EvW H lo) v l
theorem EvW.mono{H H':N7}{lo u:Nat}(O:∀j,j<lo->H'.get j=H.get j) (z:lo<=u) {cs:LV} {e:EvD} (h:EvW H lo cs e):EvW H' u cs e:=by
 obtain⟨v,D,E,J⟩:=h;exact⟨v,D,E.mono O z iF,J⟩
theorem vU.mono{H H':N7}{lo z:Nat}{v:Value}{l:List EvD}(h:vU H lo v l)(D:∀j,j<lo->H'.get j=H.get j) (u:lo<=z):vU H' z v l:=
 SlI.mono h D u fun _ _ q=>q.mono D u
theorem rj{H:N7}{lo:Nat}{v:Value}{l:List AtD}(S:SlI H lo 3 AtW v l){i:Nat}{a:AtD}(O:l[i]?=some a):
  ∃b o c cs own,v= .slice (some ⟨b,o,none⟩) l.length c/\b<lo/\H.get b=some (.cells cs own 3)/\ldC (some true) (some 3) (o+i*3) cs=some (.agg #[.string a.space,.string a.loc,.string a.val]):=by
 obtain⟨b,o,c,cs,own,u,z,D,E,J⟩:=S.at_ O;exact⟨b,o,c,cs,own,u,z,D,cq E J⟩
def R3(cs:LV)(a:AtD):Prop:=cs.length=3/\∀x∈cs,∃s,x= .string s
def EvS(H:N7)(F:Nat->Prop)(cs:LV)(e:EvD):Prop:=∃k s l v t,cs=[iV k,.string s,.string l,v,.string t]/\SlO H F 3 R3 v e.attrs
theorem SlO.imp{H:N7}{F:Nat->Prop}{sz:Nat}{α:Type}{R u:LV->α->Prop}{v:Value}{l:List α}(h:SlO H F sz R v l)(O:∀cs a,R cs a->u cs a):SlO H F sz u v l:=by
 rcases h with h|⟨b,o,c,U,h⟩
 .exact .inl h
 .exact .inr ⟨b,o,c,U,h.imp id fun⟨cs,z,D,E,J⟩=>⟨cs,z,D,E,fun i a S=>O _ _ (J i a S)⟩⟩
theorem EvO.s{H:N7}{F:Nat->Prop}{cs:LV}{e:EvD}(h:EvO H F cs e):EvS H F cs e:=by
 obtain⟨v,z,D⟩:=h;refine⟨_,_,_,v,_,z,D.imp fun cs a q=>?_⟩;obtain rfl:cs=atE a:=q;exact⟨rfl,fun x u=>by simp [atE]at u;rcases u with rfl|rfl|rfl<;>exact⟨_,rfl⟩⟩
theorem EvS.mono{H H':N7}{F F':Nat->Prop}{cs:LV}{e:EvD}(h:EvS H F cs e)(E:∀j,F j->H'.get j=H.get j) (D:∀j,F j->F' j):EvS H' F' cs e:=by
 obtain⟨k,s,l,v,t,u,z⟩:=h;exact⟨k,s,l,v,t,u,z.mono E D⟩
theorem zM{cs:LV}{q a n:Nat}{y:Value}:((cs.set q y).drop a).take n=if q<a then(cs.drop a).take n else((cs.drop a).take n).set (q-a) y:=by
 rw[List.drop_set];split
 .rfl
 .rw[List.take_set]
theorem R3.set{cs:LV}{q a:Nat}{s:ByteArray}{x:AtD}(h:R3 ((cs.drop a).take 3) x):R3 (((cs.set q (.string s)).drop a).take 3) x:=by
 rw[zM];split
 .exact h
 .refine⟨by rw[List.length_set];exact h.1,fun y u=>?_⟩;rcases List.mem_or_eq_of_mem_set u with k|k
  .exact h.2 y k
  .exact⟨s,k⟩
structure TS(lo:Nat)(H:N7)(v:Value)(l:List EvD)(G:Nat->Prop):Prop where
 own:u6 H lo 5 (EvS H G) v l
 fr:∀j,G j->lo<=j/\j<H.next/\¬l7 v j
theorem ip.sp{lo:Nat}{H:N7}{v:Value}{l:List EvD}{G:Nat->Prop}(h:ip lo H v l G):TS lo H v l G:=⟨h.own.imp fun _ _ q=>q.s,h.fr⟩
theorem TS.text{lo:Nat}{H:N7}{v:Value}{l:List EvD}{G:Nat->Prop}{b c i:Nat}{cs:LV}{s:ByteArray}(h:TS lo H v l G)(E:v=sL b l.length c)(W:H.get b=cE cs 5)(hi:i<l.length):TS lo (H.put b (.cells (cs.set (i*5+4) (.string s)) true 5)) v l G:=by
 have hb:l7 v b:=by rw[E];exact E6.2 rfl
 have O:∀j,G j->b≠j:=fun j D e=>(h.fr j D).2.2 (e▸hb);refine⟨?_,fun j D=>by rw[t5];exact h.fr j D⟩;obtain⟨ca,u,U⟩:=h.own;rcases u with⟨u,J,rfl⟩|⟨b',c',u,J,h4,h5⟩
 .rw[E]at u;cases u
 .rw[E]at u;cases u;obtain rfl:cs=ca:=by rw[W]at J;cases J;rfl
  refine⟨_,.inr ⟨b,c,E,j5 (u7 W),h4,by rw[List.length_set];exact h5⟩,by rw[List.length_set];exact U.1,fun j a ha=>?_⟩;have X:=(U.2 j a ha).mono (H':=H.put b (.cells (cs.set (i*5+4) (.string s)) true 5)) (fun j D=>j6 (O j D)) (fun _ h=>h);rw[zM];split
  .exact X
  .obtain⟨k,s',l',w,t,e1,S⟩:=X;rw[e1];by_cases e:j=i
   .subst e;rw[show j*5+4-j*5=4 from oM];exact⟨k,s',l',w,s,rfl,S⟩
   .have hz:∀z:LV,z.length=5->z.set (i*5+4-j*5) (.string s)=z:=fun z hz=>List.set_eq_of_length_le oM;rw[hz _ rfl];exact⟨k,s',l',w,t,rfl,S⟩
theorem TS.at_{lo:Nat}{H:N7}{v:Value}{l:List EvD}{G:Nat->Prop}(h:TS lo H v l G){i:Nat}(X:i<l.length):∃x b c cs u,l[i]?=some x/\v=sL b l.length c/\lo<=b/\b<H.next/\H.get b=cE cs 5/\i*5+5<=cs.length/\cs[i*5+3]?=some u/\SlO H G 3 R3 u x.attrs:=by
 obtain⟨x,z,_⟩:=Q1 (l:=l) (i:=i) X;obtain⟨b,c,cs,D,E,J,O,S,k,s,l',u,t,U,W⟩:=h.own.at_ z;exact⟨x,b,c,cs,u,z,D,E,J,O,S,by rw[Q3 (k:=3) oM U];rfl,W⟩
theorem SlI.mem{H:N7}{lo sz:Nat}{α:Type}{R u:LV->α->Prop}{v:Value}{l:List α}(h:SlI H lo sz R v l)(S:∀a∈l,∀cs,R cs a->u cs a):SlI H lo sz u v l:=by
 rcases h with h|⟨b,o,c,U,h⟩
 .exact .inl h
 .exact .inr ⟨b,o,c,U,h.imp id fun⟨cs,own,D,E,J,O⟩=>⟨cs,own,D,E,J,fun i a z=>S a (mG z) _ (O i a z)⟩⟩
def Cp:Option Int->List EvD->Option Int
 |p,[]=>p
 |_,e::l=>Cp (some e.kind) l
theorem om:∀(u l2:List EvD)(p:Option Int)(d:Int),bGo p d (u++l2)=(bGo p d u&&bGo (Cp p u) (dep d u) l2)
 |[],l2,p,d=>by simp [bGo,Cp,dep]
 |e::u,l2,p,d=>by
  rw[List.cons_append,bGo,bGo];split
  .rfl
  .split
   .rfl
   .rw[om u l2];rfl
theorem sQ(d:Int)(u l2:List EvD):dep d (u++l2)=dep (dep d u) l2:=by simp [dep]
theorem tT:∀(l:List EvD)(p:Option Int),l≠ []\/p≠none->∃k,Cp p l=some k
 |[],none,h=>by simp at h
 |[],some k,_=>⟨k,rfl⟩
 |e::l,p,_=>tT l (some e.kind) (.inr sM)
theorem aE{l:List EvD}(h:v8 l=true){i:Nat}{e:EvD}(E:l[i]?=some e):0<=dep 0 (l.take i)/\gI e=true/\(i=0->e.kind=1)/\(0<i->dep 0 (l.take i)≠0)/\dep 0 (l.take (i+1))=d7 (dep 0 (l.take i)) e.kind:=by
 obtain⟨U,O⟩:=gS E;have W:l=l.take i++e::l.drop (i+1):=by
  rw[<-O,<-List.drop_eq_getElem_cons U,List.take_append_drop]
 have D:=om (l.take i) (e::l.drop (i+1)) none 0;rw[<-W]at D;rw[v8,D,Bool.and_eq_true]at h;have J:=Eg (l:=l.take i) h.1;have z:=h.2;rw[bGo]at z;split at z
 .cases z
 .rename_i u;simp only[Bool.or_eq_true,Bool.and_eq_true,Bool.not_eq_true',decide_eq_true_eq,decide_eq_false_iff_not,not_or,not_and,Bool.not_eq_false]at u;refine⟨J.1,u.1.1.1,fun h=>?_,fun h=>?_,?_⟩
  .subst h;have:=u.1.1.2 rfl;exact Classical.not_not.1 this
  .obtain⟨k,S⟩:=tT (l.take i) none (.inl (by intro q;have:=congrArg List.length q;rw[List.length_take,List.length_nil]at this;omega));exact u.1.2 (by rw[S];simp)
  .have:l.take (i+1)=l.take i++[e]:=by rw[List.take_add_one,E];rfl
   rw[this,sQ];rfl
def whF(s:StD):List EvD->List SoD×List SoD
 |[]=>([soZ],[])
 |e::l=>if e.kind=3 then(soZ::(whF s l).1,(whF s l).2)
  else if e.kind=1 then(I4 s e ((whF s l).1.headD soZ) ((whF s l).1.tail.headD soZ)::(whF s l).1.tail.tail,I4 s e ((whF s l).1.headD soZ) ((whF s l).1.tail.headD soZ)::(whF s l).2)
  else(I4 s e soZ ((whF s l).1.headD soZ)::(whF s l).1.tail,I4 s e soZ ((whF s l).1.headD soZ)::(whF s l).2)
def Bx(s:StD)(l:List EvD):List SoD:=if qe l then(whF s l).2 else []
theorem qf(s:StD):∀(l:List EvD)(i:Nat),(whF s l).2.length=(F5 i l).length
 |[],i=>rfl
 |e::l,i=>by
  rw[whF,F5];split
  .exact qf s l _
  .split<;>exact congrArg (· +1) (qf s l _)
theorem xE(s:StD){l:List EvD}(h:v8 l=true)(E:dep 0 l=0):∀(n i:Nat),i+n=l.length->((whF s (l.drop i)).1.length:Int)=1+dep 0 (l.take i)
 |0,i,hi=>by
  rw[dN oM,List.take_of_length_le oM,E];rfl
 |n+1,i,hi=>by
  obtain⟨e,O,J⟩:=S6 (l:=l) (i:=i) oM;have D:=xE s h E n (i+1) oM;obtain⟨U,_,W,X,S⟩:=aE h O;rw[S]at D;rw[J,whF];by_cases z:e.kind=3
  .rw[if_pos z];rw[d7,if_neg oM,if_pos z]at D;simp only[List.length_cons];omega
  .rw[if_neg z];by_cases u:e.kind=1
   .rw[if_pos u];rw[d7,if_pos u]at D;simp only[List.length_cons,List.length_tail];omega
   .rw[if_neg u];rw[d7,if_neg u,if_neg z]at D;simp only[List.length_cons,List.length_tail];omega
theorem jh{l:List EvD}(h:v8 l=true)(E:dep 0 l=0){i:Nat}{e:EvD}(J:l[i]?=some e)(W:i+1=l.length):e.kind=3:=by
 obtain⟨X,_,S,U,u⟩:=aE h J;rw[List.take_of_length_le oM,E]at u;by_cases D:e.kind=3
 .exact D
 .by_cases z:e.kind=1
  .rw[d7,if_pos z]at u;omega
  .rw[d7,if_neg z,if_neg D]at u;by_cases O:i=0
   .exact absurd (S O) z
   .exact absurd u.symm (U oM)
theorem mP{e:EvD}(h:gI e=true):e.attrs.length<=1000000:=by
 unfold gI at h;split at h
 .simp only[Bool.and_eq_true,gH,decide_eq_true_eq]at h;have:=h.2.2;omega
 .split at h
  .simp only[Bool.and_eq_true,decide_eq_true_eq]at h;have:=h.2;omega
  .split at h
   .simp only[Bool.and_eq_true,decide_eq_true_eq]at h;have:=h.2;omega
   .cases h
theorem Je{H:N7}{lo:Nat}{z:LV}{e:EvD}(h:EvR H lo z e)(F:Nat->Prop)(U:∀j,j<lo->F j):EvF H F z e:=by
 obtain⟨v,D,u,_⟩:=h;refine⟨v,D,?_⟩;rcases u with u|⟨b,o,c,X,u⟩
 .exact .inl u
 .exact .inr ⟨b,o,c,X,u.imp id fun⟨ca,own,E,J,O,S⟩=>⟨ca,own,U b E,J,O,fun i a W=>(S i a W).1⟩⟩
def jZ(H:N7)(b:Nat)(l:List SoD):Prop:=∃cs,H.get b=cE cs 3/\l.length*3<=cs.length/\∀(j:Nat) x,l[j]?=some x->(cs.drop (j*3)).take 3=soE x
theorem jZ.same{H H':N7}{b:Nat}{l:List SoD}(h:jZ H b l)(D:H'.get b=H.get b):jZ H' b l:=by
 obtain⟨cs,u,z⟩:=h;exact⟨cs,by rw[D];exact u,z⟩
theorem jZ.less{H:N7}{b:Nat}{l:List SoD}{x:SoD}(h:jZ H b (l++[x])):jZ H b l:=by
 obtain⟨cs,z,D,E⟩:=h;refine⟨cs,z,by simp at D;omega,fun j y u=>E j y ?_⟩;rw[List.getElem?_append_left (gS u).1];exact u
theorem jZ.set{H:N7}{b:Nat}{l:List SoD}{x y:SoD}{cs:LV}(O:H.get b=cE cs 3)(h:jZ H b (l++[x])):jZ (H.put b (.cells (splice cs (l.length*3) (soE y)) true 3)) b (l++[y]):=by
 obtain⟨cs',J,S,U⟩:=h;obtain rfl:cs=cs':=by rw[O]at J;cases J;rfl
 have W:=u7 O;simp only[List.length_append,List.length_singleton]at S;refine⟨_,j5 W,by rw[E3];simp;omega,fun j z D=>?_⟩;refine List.ext_getElem? fun k=>?_;have hj:j<l.length+1:=by have:=(gS D).1;simpa using this
 rw[List.getElem?_take];by_cases u:k<3
 .rw[if_pos u,List.getElem?_drop,Y9 _ _ _ _ (by show _+3<=_;omega)];show(if l.length*3<=j*3+k/\j*3+k<l.length*3+3 then _ else _)=_;by_cases X:j=l.length
  .subst X;rw[if_pos oM];have:z=y:=by simpa using D.symm
   rw[this];congr 1;omega
  .rw[if_neg oM];have E:l[j]?=some z:=by rwa [List.getElem?_append_left oM]at D
   have:=U j z (by rw[List.getElem?_append_left oM];exact E);rw[<-this,List.getElem?_take,if_pos u,List.getElem?_drop]
 .rw[if_neg u];exact(List.getElem?_eq_none (by show 3<=k;omega)).symm
theorem PY{H:N7}{b n c ca:Nat}{l:List SoD}{x:SoD}(W:n=l.length)(h:jZ H b l)(hg:H.get ca=cE (soE x) 3)(hb:n<=2000000):
  ∃H',C2 prog H [36,36] (sL b n c) (sL ca 1 1)=some (sL H.next (n+1) (n+2),some H')/\jZ H' H.next (l++[x])/\H'.next=H.next+1/\(∀j,j<H.next->j≠b->H'.get j=H.get j)/\(∀lo,lo<=b->i6 lo H H'):=by
 subst W;obtain⟨cs,O,h2,h3⟩:=h;have a1:=u7 O;have E:I5 prog 36=some 59:=ME.2.2.2.2.2.1;have u:aY prog H 3 (some 36) (sL ca 1 1)=some (1,soE x):=by
  simp only[aY,Option.bind_some,ME,A5,hg,Nat.one_ne_zero,if_false];rfl
 have D:¬((3:Nat)=0\/(24:Nat)=0):=oM;have X:((cs.drop 0).take (l.length*3)).length=l.length*3:=by rw[List.drop_zero,List.length_take];omega
 have key:∀K:N7,K.next=H.next->jZ (K.push (.cells ((cs.drop 0).take (l.length*3)++soE x) true 3)) H.next (l++[x]):=by
  intro K hK;refine⟨_,by rw[<-hK];exact j9,by rw[List.length_append,List.length_append,X];show(l.length+1)*3<=l.length*3+3;omega,fun j y J=>?_⟩;by_cases z:j<l.length
  .rw[List.getElem?_append_left z]at J;rw[<-h3 j y J,List.drop_append_of_le_length oM,List.take_append_of_le_length (by rw[List.length_drop];omega),List.drop_zero];refine List.ext_getElem? fun k=>?_;rw[List.getElem?_take,List.getElem?_take];split
   .rw[List.getElem?_drop,List.getElem?_drop,List.getElem?_take,if_pos oM]
   .rfl
  .have:j=l.length:=by have:=(gS J).1;simp at this;omega
   subst this;obtain rfl:x=y:=by simpa using J
   rw[List.drop_append,dN oM,X,Nat.sub_self];rfl
 by_cases S:c=l.length
 .refine⟨_,?_,key H rfl,i5,fun j z _=>i7 z,fun lo U=>i6.push oM⟩;simp only[C2,List.head?_cons,Option.bind_some,E,CH,List.getElem?_cons_succ,List.getElem?_cons_zero,if_neg D,u,O];rw[if_neg oM,if_pos oM,if_pos ⟨oM,trivial⟩,if_pos S]
 .refine⟨_,?_,key (H.put b .dead) (t5 ..),by rw[i5,t5],fun j z W=>by rw[i7 (by rw[t5];exact z),j6 oM],fun lo U=>(i6.put U).trans (i6.push (by rw[t5];omega))⟩;simp only[C2,List.head?_cons,Option.bind_some,E,CH,List.getElem?_cons_succ,List.getElem?_cons_zero,if_neg D,u,O];rw[if_neg oM,if_pos oM,if_pos ⟨oM,trivial⟩,if_neg S,if_pos trivial]
def RU(N:Nat)(acc:List SoD)(co:LV):Prop:=co.length=N*3/\acc.length<=N/\∀(j:Nat) x,acc[j]?=some x->(co.drop ((N-acc.length+j)*3)).take 3=soE x
theorem RU.add{N:Nat}{u:List SoD}{z:LV}{x:SoD}{m:Nat}(h:RU N u z)(U:m+1+u.length=N):RU N (x::u) (splice z (m*3) (soE x))/\ldC (some true) (some 3) (m*3) (splice z (m*3) (soE x))=some (.agg (soE x).toArray):=by
 obtain⟨J,S,O⟩:=h;have key:((splice z (m*3) (soE x)).drop (m*3)).take 3=soE x:=by
  refine List.ext_getElem? fun k=>?_;rw[List.getElem?_take];by_cases E:k<3
  .rw[if_pos E,List.getElem?_drop,Y9 _ _ _ _ (by show _+3<=_;omega),if_pos ⟨oM,by show _<_+3;omega⟩]
   congr 1;omega
  .rw[if_neg E];exact(List.getElem?_eq_none (by show 3<=k;omega)).symm
 refine⟨⟨by rw[E3,J],by simp;omega,fun j y D=>?_⟩,cq (by rw[E3];omega) key⟩;rw[List.length_cons];cases j with
 |zero=>
  obtain rfl:x=y:=by simpa using D
  rw[Nat.add_zero,show N-(u.length+1)=m from oM];exact key
 |succ j=>
  rw[List.getElem?_cons_succ]at D;rw[<-O j y D];refine List.ext_getElem? fun k=>?_;rw[List.getElem?_take,List.getElem?_take];split
  .rw[List.getElem?_drop,List.getElem?_drop,Y9 _ _ _ _ (by show _+3<=_;omega),if_neg (by intro q;have:=q.2;change _<_+3 at this;omega)]
   congr 1;omega
  .rfl
theorem Bb(s:StD):∀l:List EvD,(whF s l).2.length<=l.length
 |[]=>lR
 |e::l=>by
  have:=Bb s l;rw[whF,List.length_cons];split
  .show(whF s l).2.length<=_;omega
  .split<;>(show(whF s l).2.length+1<=_;omega)
theorem Sc(s:StD){n:Nat}(z:(n:Int)=A0 s.progs):∀l:List EvD,∀x∈(whF s l).1,bJ x n
 |[],x,u=>by rw[List.mem_singleton.1 u];intro h;cases h
 |e::l,x,u=>by
  have D:=Sc s z l;rw[whF]at u;split at u
  .rcases List.mem_cons.1 u with rfl|u
   .intro h;cases h
   .exact D x u
  .split at u
   .rcases List.mem_cons.1 u with rfl|u
    .exact FR s e _ _ z
    .exact D x (List.mem_of_mem_tail (List.mem_of_mem_tail u))
   .rcases List.mem_cons.1 u with rfl|u
    .exact FR s e _ _ z
    .exact D x (List.mem_of_mem_tail u)
theorem Pm(s:StD)(X:List EvD):∀a:List EvD,(whF s X).2.length<=(whF s (a++X)).2.length
 |[]=>lR
 |e::l=>by
  have:=Pm s X l;rw[List.cons_append,whF];split
  .exact this
  .split<;>(show _<=(whF s (l++X)).2.length+1;omega)
theorem jZ.at_{H:N7}{b:Nat}{l:List SoD}{x:SoD}{cs:LV}(h:jZ H b (l++[x]))(E:H.get b=cE cs 3):ldC (some true) (some 3) (l.length*3) cs=some (.agg (soE x).toArray):=by
 obtain⟨cs',u,z,D⟩:=h;obtain rfl:cs=cs':=by rw[E]at u;cases u;rfl
 exact cq (by simp at z;omega) (D _ x sM)
theorem KS{P:Program}{H:N7}{t e size b n h c:Nat}{cs:LV}{own:Bool}(E:P.underlying t=some (.slice e))(D:D8 P e=some size)(J:0<size)(z:H.get b=some (.cells cs own size))(u:c≠n)(S:0<n)(O:h<=n):
  aH P H t (sL b n c) none (some (.int .i64 (h:Nat))) none=some (sL b h (h+1)):=by
 simp only[aH,E,D,bnd,CA,z,Int.toNat_natCast,Int.natCast_nonneg,if_true,ne_eq,not_true_eq_false,if_false];rw[if_neg oM,if_pos oM,if_neg oM,if_neg u];simp
abbrev SH:t7:=ptA SY [1,1,1,1,1,0,1,0,0]
theorem Ma(Hs:N7)(lo K:Nat)(s:StD)(n:Nat)(e4:(n:Int)=A0 s.progs)(hw:WfS s n)(g4:∀p∈s.progs,p.ts.length<=1000000/\p.ed.length<=1000000/\0<=p.st/\p.st<=1000000)
  (H:N7) (rs:LV) (hs:StF H (· <H.next) (QR Hs lo K false) (QR Hs lo K true) rs s) (g1:∀j,j<lo->H.get j=Hs.get j) (j3:lo<=H.next)
  (v:Value) (l:List EvD) (hv:qY H H.next v l) (hl:l.length<=1000000) (hB:v8 l=true) (h0:dep 0 l=0) (bo N:Nat) (hN:N=(whF s l).2.length) (j2:H.next<bo):
  ∀kk e H2,(∃(i b c:Nat)(co:LV),kk=i/\i<=l.length/\e.get 1=v/\e.get 2=pT H.next/\e.get 8=iV ((i:Int)-1)/\e.get 5=sL bo N (N+1)/\e.get 6=iV ((N:Int)-(whF s (l.drop i)).2.length)/\
    e.get 7=sL b (whF s (l.drop i)).1.length c/\(i=l.length\/c≠(whF s (l.drop i)).1.length)/\bo<b/\jZ H2 b (whF s (l.drop i)).1.reverse/\H2.get bo=cE co 3/\RU N (whF s (l.drop i)).2 co/\H2.get H.next=cE rs 1/\i6 H.next H H2/\H.next<=H2.low)->
  w7 (LE prog t6 (.loop SH) e H2) (fun o e H2=>o= .exit 0/\e.get 5=sL bo N (N+1)/\∃co,H2.get bo=cE co 3/\RU N (whF s l).2 co/\i6 H.next H H2/\H.next<=H2.low):=by
 refine i8 _ _ ?_;rintro kk e H2 ⟨i,b,c,co,hk,hi,f1,f2,f8,f5,f6,f7,hc,hb,hT,ho,hO,hp,hS,c8⟩;cases i with
 |zero=>
  refine J1 f8 ?_;exact i9 ⟨rfl,f5,co,ho,hO,hS,c8⟩
 |succ i=>
  have e8:((i+1:Nat):Int)-1=i:=oM;rw[e8]at f8;have c3:=hS.next;obtain⟨D,he,hd⟩:=S6 (l:=l) (i:=i) oM;obtain⟨k0,kr,k1,k2,k3⟩:=aE hB he;have b4:=xE s hB h0 (l.length-(i+1)) (i+1) oM;rw[k3]at b4;obtain⟨be,oe,ce,g8,g5,aa,ac,i0,f9,h6,h7,g2,f4,hz⟩:=DS hv he;have a4:H2.get be=some (.cells g8 g5 5):=by rw[hS.get be f9];exact h6
  have ke:=Q3 (k:=0) oM g2;rw[Nat.add_zero]at ke;have c9:=cq h7 g2;have z:whF s (l.drop i)=whF s (D::l.drop (i+1)):=by rw[hd]
  rw[whF]at z;generalize hW:whF s (l.drop (i+1))=W at*;obtain⟨bh,b2⟩:=W;simp only at f6 f7 hc hT hO b4 z;have b7:=f1;rw[i0]at b7;have d8:bh.length<=2000000:=by
   have:=xr (l.take i) 0;rw[List.length_take]at this;have:=jG (dep 0 (l.take i)) D.kind;omega
  have b0:decide ((0:Int)<=i)=true:=decide_eq_true oM;have lb:∀m:Nat,((m+1:Nat):Int)-1=m:=fun m=>oM;have j1:N<=1000000:=oN (Bb s l);have b1:(whF s (l.drop i)).2.length<=N:=by
   have:=Pm s (l.drop i) (l.take i);rw[List.take_append_drop]at this;omega
  obtain⟨cs,g0,_⟩:=id hT;have e7:∀x∈bh,bJ x n:=by
   have:=Sc s e4 (l.drop (i+1));rw[hW]at this;exact this
  have a2:=u7 g0;have e5:=u7 ho;have e6:=u7 hp;have c7:=u7 a4;rcases d3:decide (D.kind=3)with _|_
  .have e3:=dF d3;rw[if_neg e3]at z;obtain⟨H3,O,n3,x3,-⟩:=pushP H2 (bC [.bool false,.bool false,.string eB] 1) (bC [.bool false,.bool false,.string eB] 1);have y3:∀j,j<H2.next->H3.get j=H2.get j:=fun j J=>by rw[O,j6 oM,i7 J]
   have s3:i6 H.next H H3:=by rw[O];exact hS.trans ((i6.push c3).trans (i6.put c3))
   have a5:=(y3 b a2).trans g0;have f0:=(y3 bo e5).trans ho;have c0:=(y3 _ e6).trans hp;have d5:=(y3 be c7).trans a4;obtain⟨pa,pc,ga,gc,xa,xc,ea,ec,ta,tc,h8,_⟩:=F1 hs;have j4:rs.length=8:=by rw[h8];rfl
   have d0:ldC (some true) (some 8) 0 rs=some (.agg rs.toArray):=cq oM (by rw[List.drop_zero,List.take_of_length_le oM]);rcases d1:decide (D.kind=1)with _|_
   .have e1:=dF d1;rw[if_neg e1]at z;obtain⟨x,U,rfl⟩:∃x U,bh=x::U:=by
     cases bh with
     |nil=>simp at b4;unfold d7 at b4;split at b4<;>omega
     |cons x U=>exact⟨x,U,rfl⟩
    rw[List.length_cons]at f7 d8 hc;obtain⟨m,hm⟩:∃m,m+1+b2.length=N:=⟨N-b2.length-1,by rw[z]at b1;simp at b1;omega⟩
    have em:(N:Int)-b2.length=((m+1:Nat):Int):=oM;rw[em]at f6;simp only[List.headD_cons,List.tail_cons]at z;rw[List.reverse_cons]at hT;have X:=(hT.same (y3 b a2)).at_ a5;rw[List.length_reverse]at X;generalize hst:I4 s D soZ x=st at z;have hk:CL prog t6 41 [.agg rs.toArray,.agg #[iV D.kind,.string D.space,.string D.loc,.slice aa D.attrs.length ac,.string D.text],.agg #[.bool false,.bool false,.string eB],.agg (soE x).toArray] H3=some (.agg (soE (I4 s D soZ x)).toArray,none):=qw Hs lo K s D soZ x (· <H3.next) H3 rs [iV D.kind,.string D.space,.string D.loc,.slice aa D.attrs.length ac,.string D.text] (hs.mono (fun j J=>s3.get j J) (fun j J=>oM) iF iF) (Je (lo:=H.next) (EvR.mono (fun j J=>s3.get j J) lR ⟨_,rfl,f4,hz⟩) _ (fun j J=>oM)) (fun j J=>J) (fun j J=>by rw[s3.get j oM,g1 j J]) oM n e4 hw (fun h=>by cases h) (e7 x sM) (mP kr) g4;rw[hst]at hk;obtain⟨el,S⟩:=eY (soE st);rw[<-S]at hk;have e9:el.length=3:=by rw[S];rfl
    have d2:el.all oC=true:=by rw[S];rfl
    obtain⟨a7,a8⟩:=hO.add (x:=st) hm;rw[<-S]at a7 a8;obtain⟨a1,b5⟩:∃q,splice co (m*3) el=q:=⟨_,rfl⟩
    rw[b5]at a7 a8;have e2:m*3+3<=co.length:=by rw[hO.1];omega
    obtain⟨H4,u⟩:=eY (H3.put bo (bC a1 3));have n4:H4.next=H3.next:=by rw[u,t5]
    have b8:H4.get bo=cE a1 3:=by rw[u];exact j5 oM
    have a6:H4.get b=cE cs 3:=by rw[u,j6 oM];exact a5
    have s4:i6 H.next H H4:=by rw[u];exact s3.trans (i6.put oM)
    have c4:jZ H4 b (U.reverse++[x]):=hT.same (by rw[u,j6 oM];exact y3 b a2);have d9:U.length*3+3<=cs.length:=by
     obtain⟨cs',q1,q2,_⟩:=c4;obtain rfl:cs=cs':=by rw[a6]at q1;cases q1;rfl
     simp at q2;omega
    have a9:=jZ.set (y:=st) a6 c4;rw[<-S,List.length_reverse]at a9;obtain⟨cs',a3⟩:∃q,splice cs (U.length*3) el=q:=⟨_,rfl⟩
    rw[a3]at a9;obtain⟨H5,E⟩:=eY (H4.put b (bC cs' 3));rw[<-E]at a9;have s5:i6 H.next H H5:=by rw[E];exact s4.trans (i6.put oM)
    have b9:H5.get bo=cE a1 3:=by rw[E,j6 oM];exact b8
    have h2:H5.get H.next=cE rs 1:=by rw[E,j6 oM,u,j6 oM];exact c0
    have i2:H.next<=H5.low:=by rw[E,A4,u,A4,O,A4,l9];omega
    refine J30 f8 f7 b7 f2 f5 f6 a4 ke b0 d3 d1 O.symm lb d5 c0 d0 c9 x3 a5 X @wrap_small hk f0 e9 d2 e2 (aI b5 u.symm) (aI b8 a8) (aI a6 d9) (aI a3 E.symm) ?_;refine i4 (kk-1) oM ⟨i,b,c,a1,oM,oM,f1,f2,rfl,f5,?_,?_,.inr ?_,hb,?_,b9,?_,h2,s5,i2⟩
    all_goals rw[z]
    .show iV (m:Int)=_
     congr 1;simp only[List.length_cons];omega
    .exact f7
    .rcases hc with hc|hc
     .exact absurd (jh hB h0 he hc) e3
     .exact hc
    .rw[List.reverse_cons];exact a9
    .exact a7
   .have e1:=dT d1;rw[if_pos e1]at z;obtain⟨x1,x2,U,rfl⟩:∃x1 x2 U,bh=x1::x2::U:=by
     have:(bh.length:Int)=1+(dep 0 (l.take i)+1):=by rw[b4,d7,if_pos e1]
     match bh,this with
     |[],h=>simp at h;omega
     |[_],h=>simp at h;omega
     |x1::x2::U,_=>exact⟨x1,x2,U,rfl⟩
    simp only[List.length_cons]at f7 d8 hc;have h5:c≠U.length+1+1:=by
     rcases hc with hc|hc
     .exact absurd (jh hB h0 he hc) e3
     .exact hc
    obtain⟨m,hm⟩:∃m,m+1+b2.length=N:=⟨N-b2.length-1,by rw[z]at b1;simp at b1;omega⟩
    have em:(N:Int)-b2.length=((m+1:Nat):Int):=oM;rw[em]at f6;simp only[List.headD_cons,List.tail_cons]at z;rw[List.reverse_cons]at hT;have X:=(hT.same (y3 b a2)).at_ a5;rw[List.length_reverse,List.length_cons]at X;have d6:=hT.less;rw[List.reverse_cons]at d6;have c6:=(d6.same (y3 b a2)).at_ a5;rw[List.length_reverse]at c6;obtain⟨ex,b6⟩:=eY (soE x1);have i1:ex.length=3:=by rw[b6];rfl
    have g7:ex.all oC=true:=by rw[b6];rfl
    have sx:splice [.bool false,.bool false,.string eB] 0 ex=ex:=by rw[b6];rfl
    have j0:ldC (some true) (some 3) 0 ex=some (.agg ex.toArray):=cq oM (by rw[List.drop_zero,List.take_of_length_le oM]);rw[<-b6]at X;obtain⟨H4,u⟩:=eY (H3.put H2.next (bC ex 1));have n4:H4.next=H3.next:=by rw[u,t5]
    have y4:∀j,j<H2.next->H4.get j=H3.get j:=fun j J=>by rw[u,j6 oM]
    have x4:H4.get H2.next=cE ex 1:=by rw[u];exact j5 oM
    have s4:i6 H.next H H4:=by rw[u];exact s3.trans (i6.put c3)
    have a6:=(y4 b a2).trans a5;have b8:=(y4 bo e5).trans f0;have f3:=(y4 _ e6).trans c0;have g9:=(y4 be c7).trans d5;have h9:=KS (P:=prog) (H:=H4) (t:=36) (n:=U.length+1+1) (h:=U.length+1) ME.2.2.2.2.2.2 CH.1 oM a6 h5 oM oM;generalize hst:I4 s D x1 x2=st at z;have hk:CL prog t6 41 [.agg rs.toArray,.agg #[iV D.kind,.string D.space,.string D.loc,.slice aa D.attrs.length ac,.string D.text],.agg (soE x1).toArray,.agg (soE x2).toArray] H4=some (.agg (soE (I4 s D x1 x2)).toArray,none):=qw Hs lo K s D x1 x2 (· <H4.next) H4 rs [iV D.kind,.string D.space,.string D.loc,.slice aa D.attrs.length ac,.string D.text] (hs.mono (fun j J=>s4.get j J) (fun j J=>oM) iF iF) (Je (lo:=H.next) (EvR.mono (fun j J=>s4.get j J) lR ⟨_,rfl,f4,hz⟩) _ (fun j J=>oM)) (fun j J=>J) (fun j J=>by rw[s4.get j oM,g1 j J]) oM n e4 hw (e7 x1 sM) (e7 x2 sM) (mP kr) g4;rw[hst,<-b6]at hk;obtain⟨el,S⟩:=eY (soE st);rw[<-S]at hk;have e9:el.length=3:=by rw[S];rfl
    have d2:el.all oC=true:=by rw[S];rfl
    obtain⟨a7,a8⟩:=hO.add (x:=st) hm;rw[<-S]at a7 a8;obtain⟨a1,b5⟩:∃q,splice co (m*3) el=q:=⟨_,rfl⟩
    rw[b5]at a7 a8;have e2:m*3+3<=co.length:=by rw[hO.1];omega
    obtain⟨H5,E⟩:=eY (H4.put bo (bC a1 3));have b9:H5.get bo=cE a1 3:=by rw[E];exact j5 oM
    have d4:H5.get b=cE cs 3:=by rw[E,j6 oM];exact a6
    have s5:i6 H.next H H5:=by rw[E];exact s4.trans (i6.put oM)
    have a9:jZ H5 b (U.reverse++[x2]):=d6.same (by rw[E,j6 oM,y4 b a2];exact y3 b a2);have d9:U.length*3+3<=cs.length:=by
     obtain⟨cs',q1,q2,_⟩:=a9;obtain rfl:cs=cs':=by rw[d4]at q1;cases q1;rfl
     simp at q2;omega
    have c5:=jZ.set (y:=st) d4 a9;rw[<-S,List.length_reverse]at c5;obtain⟨cs',a3⟩:∃q,splice cs (U.length*3) el=q:=⟨_,rfl⟩
    rw[a3]at c5;obtain⟨H6,b3⟩:=eY (H5.put b (bC cs' 3));rw[<-b3]at c5;have s6:i6 H.next H H6:=by rw[b3];exact s5.trans (i6.put oM)
    have i3:H.next<=H6.low:=by rw[b3,A4,E,A4,u,A4,O,A4,l9];omega
    have h1:H6.get bo=cE a1 3:=by rw[b3,j6 oM];exact b9
    have h3:H6.get H.next=cE rs 1:=by rw[b3,j6 oM,E,j6 oM];exact f3
    refine J30 f8 f7 b7 f2 f5 f6 a4 ke b0 d3 d1 O.symm lb d5 c0 (aI d0 c9) (aI x3 a5) (aI X i1) (aI g7 sx) (aI u.symm h9) (aI x4 j0) (aI a6 c6) (aI f3 g9) (aI @wrap_small hk) (aI b8 e9) (aI d2 e2) (aI b5 E.symm) (aI b9 a8) (aI d4 d9) (aI a3 b3.symm) ?_;refine i4 (kk-1) oM ⟨i,b,U.length+1+1,a1,oM,oM,f1,f2,rfl,f5,?_,?_,.inr ?_,hb,?_,h1,?_,h3,s6,i3⟩
    all_goals rw[z]
    .show iV (m:Int)=_
     congr 1;simp only[List.length_cons];omega
    .rfl
    .show U.length+1+1≠U.length+1;omega
    .rw[List.reverse_cons];exact c5
    .exact a7
  .have e3:=dT d3;rw[if_pos e3]at z;obtain⟨H3,O,n3,-⟩:=pushE H2 (bC [.bool false,.bool false,.string eB] 3);have g3:H3.get H2.next=cE (soE soZ) 3:=by rw[O];exact j9
   have y3:∀j,j<H2.next->H3.get j=H2.get j:=fun j J=>by rw[O,i7 J]
   obtain⟨H4,h4,c4,n4,y4,s4⟩:=PY (H:=H3) (b:=b) (n:=bh.length) (c:=c) (ca:=H2.next) (l:=bh.reverse) (x:=soZ) sM (hT.same (y3 b a2)) g3 d8;refine J10 f8 f7 b7 a4 ke b0 d3 O.symm h4 @wrap_small ?_;have g6:i6 H.next H2 H4:=i6.trans (by rw[O];exact i6.push c3) (s4 _ oM);refine i4 (kk-1) oM ⟨i,H3.next,bh.length+2,co,oM,oM,f1,f2,rfl,f5,?_,?_,.inr ?_,oM,?_,(y4 bo oM oM).trans ((y3 bo e5).trans ho),?_,(y4 H.next oM oM).trans ((y3 _ e6).trans hp),hS.trans g6,g6.low c8⟩
   all_goals rw[z]
   .exact f6
   .rfl
   .show bh.length+2≠bh.length+1;omega
   .rw[List.reverse_cons];exact c4
   .exact hO
theorem So(Hs:N7)(lo K:Nat)(s:StD)(n:Nat)(b3:(n:Int)=A0 s.progs)(hw:WfS s n)(b4:∀p∈s.progs,p.ts.length<=1000000/\p.ed.length<=1000000/\0<=p.st/\p.st<=1000000)
  (H:N7) (W:LV) (hs:StF H (· <H.next) (QR Hs lo K false) (QR Hs lo K true) W s) (b0:∀j,j<lo->H.get j=Hs.get j) (b1:lo<=H.next)
  (v:Value) (l:List EvD) (hv:qY H H.next v l) (hl:l.length<=1000000):
  L8 (CL prog t6 24 [.agg W.toArray,v] H) H 3 (w9 soE) (Bx s l):=by
 obtain⟨va,vc,b5⟩:=hv.slice;subst b5;obtain⟨pa,pc,ga,gc,xa,xc,ea,ec,ta,tc,a3,_⟩:=F1 hs;have b9:W.length=8:=by rw[a3];rfl
 have a1:W.all oC=true:=by rw[a3];rfl
 obtain⟨H1,O,n1,g1,s1⟩:=pushF H (bC W 1);have l1:H.next<=H1.low:=by rw[O,l9];exact lR
 have a4:qY H1 H.next (.slice va l.length vc) l:=hv.mono (fun j J=>s1.get j J) lR;have E:=Nb H1 H.next _ l oM a4 oM;rw[j7 SY rfl _ sM,Bx];rcases b:qe l with _|_
 .rw[b]at E;refine J3 a1 O.symm E ?_;exact⟨_,none,H,rfl,rfl,u6.nil,i6.refl _ _⟩
 .rw[b]at E;simp only[qe,Bool.and_eq_true,decide_eq_true_eq]at b;obtain⟨⟨bl,bb⟩,bd⟩:=b;rw[vj,if_pos bb]at bd;obtain⟨w,h,H2,r2,b7,U,s2⟩:=MZ H1 H.next _ l oM a4 oM;rw[AZ,if_pos bb]at U;obtain⟨N,X⟩:=eY ((whF s l).2.length);have a9:(F5 0 l).length=N:=by rw[X,qf s l 0]
  rw[a9]at U;have b8:N<=1000000:=oN (Bb s l);obtain⟨wa,wc,rfl⟩:=U.ownC.slice;have n2:=s2.next;obtain⟨co,a2⟩:∃q,(List.replicate N [Value.bool false,.bool false,.string eB]).flatten=q:=⟨_,rfl⟩
  have b6:co.length=N*3:=by rw[<-a2];simp
  obtain⟨H3,D,n3,g3,-⟩:=pushE H2 (bC co 3);obtain⟨H4,u,n4,-⟩:=pushE H3 (bC [.bool false,.bool false,.string eB] 3);have g4:H4.get H3.next=cE (soE soZ) 3:=by rw[u];exact j9
  have a7:H4.get H2.next=cE co 3:=by rw[u,i7 oM];exact g3
  have a8:H4.get H.next=cE W 1:=by rw[u,i7 oM,D,i7 oM,s2.get _ oM];exact g1
  have s4:i6 H.next H H4:=by rw[u,D];exact(s1.trans (s2.weaken oM)).trans ((i6.push oM).trans (i6.push (by rw[i5];omega)))
  have l4:H.next<=H4.low:=by rw[u,l9,D,l9];exact s2.lowAll _ oM l1
  have b2:N0 prog H2 36 (.int .i64 N) (.int .i64 N)=some (sL H2.next N (N+1),H3):=by
   simp only[N0,ME,CH,Int.toNat_natCast];rw[if_pos (by refine⟨by simp,oM,Int.le_refl _,oM,oM⟩),a2,D];rfl
  refine J8 a1 O.symm E r2 b7 b2 u.symm @wrap_small ?_;refine j8 (F:=fun z=>L8 (u5 _ _ _ (u9 (inBlock 0 z) _)) _ _ _ _) (Ma Hs lo K s n b3 hw b4 H W hs b0 b1 _ l hv hl bb bd H2.next N X oM l.length _ _ ⟨l.length,H3.next,1,co,rfl,lR,rfl,rfl,rfl,rfl,?_,?_,.inl rfl,oM,?_,a7,?_,a8,s4,l4⟩) ?_
  .rw[List.drop_length];show iV (N:Int)=_;simp [whF]
  .rw[List.drop_length];rfl
  .rw[List.drop_length];exact⟨_,g4,by simp [whF],fun j x J=>by
    have:j=0:=by have:=(gS J).1;simp [whF]at this;exact this
    subst this;obtain rfl:soZ=x:=by simpa [whF] using J
    rfl⟩
  .rw[List.drop_length];exact⟨b6,Nat.zero_le _,fun j x J=>by simp [whF]at J⟩
  rintro o e' H' ⟨ho,f5,a6,g',S,s',a5⟩;refine J2 ho f5 ?_;refine F0 ⟨a6,.inr ⟨H2.next,N+1,by rw[<-X],g',oM,by rw[<-X];exact S.1⟩,by rw[<-X];exact S.1,fun j x J=>?_⟩ s' a5;have:=S.2.2 j x J;rw[<-X,Nat.sub_self,Nat.zero_add]at this;exact this
def Tv:EvD:=⟨1,eB,⟨#[114,111,111,116]⟩,[],eB⟩
def Tp(L:List EvD):List EvD:=Tv::L++[wE]
theorem TV(H:N7)(v:Value)(L:List EvD)(U:SlI H H.next 5 (EvF H (· <H.next)) v L)(hL:L.length<=1000000):L8 (CL prog t6 23 [v] H) H 5 (EvF H (· <H.next)) (Tp L):=by
 obtain⟨a,c,rfl⟩:=U.slice;obtain⟨O,u,n1,-,s1⟩:=pushF H (.cells [iV 1,.string eB,.string ⟨#[114,111,111,116]⟩,nS,.string eB] true 5);have O1:u6 O H.next 5 (EvF H (· <H.next)) (sL H.next 1 1) [Tv]:=by
  rw[u];exact u6.fresh (H:=⟨H.bs,H.next⟩) rfl lR (D2.one rfl ⟨nS,rfl,.inl ⟨rfl,rfl⟩⟩)
 obtain⟨w,h,H2,W,D,S,J⟩:=O1.append (P:=prog) (t:=35) lQ.2.2.2.2.2.2 S9.1 S9.2.1 S9.2.2.1 oM oM (U.mono (fun j hj=>s1.get j hj) lR iF) (by simp;omega) oM;have n2:=J.next;obtain⟨w',h',H3,X,E,O3,s3⟩:=S.push1 (P:=prog) (t:=35) (cs:=[iV 3,.string eB,.string eB,nS,.string eB]) (a:=wE) lQ.2.2.2.2.2.2 S9.1 S9.2.1 S9.2.2.1 oM oM rfl ⟨nS,rfl,.inl ⟨rfl,rfl⟩⟩ (by simp;omega) oM;have z:H.next<=H3.low:=by
  have l1:H.next<=O.low:=by rw[u,l9];exact lR
  exact s3.low (J.low l1)
 obtain⟨wa,wc,rfl⟩:=S.slice;have e1:([Tv]++L).length=L.length+1:=sM;rw[e1]at W X;rw[j7 Ue rfl _ sM];refine J6 u.symm n1 W D X E ?_;exact F0 O3 (s1.trans (J.trans s3)) z
theorem rL{x y:SoD}(h:aP x y=true):x=y:=by
 obtain⟨a,b,c⟩:=x;obtain⟨a',u,z⟩:=y;simp only[aP,Bool.and_eq_true,beq_iff_eq,decide_eq_true_eq]at h;obtain⟨rfl,rfl,rfl⟩:=h;rfl
structure ExR(size:Int)(r r':ReD):Prop where
 st:r'.strat=r.strat
 lb:r'.labels=r.labels
 so:r.sorts<+:r'.sorts
 sz:r.size<+:r'.size
 l2:r.size.length=r.sorts.length->r'.size.length=r'.sorts.length
 nw:∀k,r.size.length<=k->k<r'.size.length->r'.size.getD k 0=size
 big:r.size.length<r'.size.length->size<=200
theorem ExR.refl(size:Int)(r:ReD):ExR size r r:=⟨rfl,rfl,List.prefix_rfl,List.prefix_rfl,fun h=>h,fun k u z=>oM,fun h=>oM⟩
theorem ExR.trans{size:Int}{r D u:ReD}(h:ExR size r D)(g:ExR size D u):ExR size r u:=by
 refine⟨g.st.trans h.st,g.lb.trans h.lb,h.so.trans g.so,h.sz.trans g.sz,fun q=>g.l2 (h.l2 q),fun k E J=>?_,fun q=>?_⟩
 .by_cases z:k<D.size.length
  .rw[N9 g.sz z];exact h.nw k E z
  .exact g.nw k oM J
 .by_cases z:r.size.length<D.size.length
  .exact h.big z
  .exact g.big oM
theorem Gm(r:ReD)(x:SoD)(size:Int)(how:Int×Int×Int):ExR size r (am r x size how).1:=by
 obtain⟨p1,p2,J,O⟩:=eF r x size how;unfold am at*;split
 .exact ExR.refl _ _
 .split
  .exact ExR.refl _ _
  .rename_i D;simp only[Bool.or_eq_true,decide_eq_true_eq,not_or]at D;refine⟨rfl,rfl,⟨_,rfl⟩,⟨_,rfl⟩,fun h=>by simp [h],fun k E u=>?_,fun _=>oM⟩;have z:k=r.size.length:=by simp at u;omega
   rw[z];exact bB _ _ _
theorem CW{r:ReD}{x:SoD}{size:Int}{how:Int×Int×Int}(h:(am r x size how).2=true):x∈(am r x size how).1.sorts:=by
 unfold am at*;split
 .rename_i u;obtain⟨y,D,e⟩:=List.any_eq_true.1 u;rw[rL e];exact D
 .rename_i u;rw[if_neg u]at h;split
  .rename_i z;rw[if_pos z]at h;cases h
  .simp
theorem nY{E z:List SoD}(h:E<+:z){u:Int}{a b:Nat}(O:a<E.length)(J:b<E.length):R5 z u a b=R5 E u a b:=by
 have S:=h.length_le;have D:∀{n k:Nat},k<n->knB n (k:Int)=true:=fun U=>by
  simp only[knB,Bool.and_eq_true,decide_eq_true_eq];omega
 simp only[R5,Int.toNat_natCast];rw[D O,D J,D (Nat.lt_of_lt_of_le O S),D (Nat.lt_of_lt_of_le J S),N9 h J]
theorem eS{size:Int}{a b:Nat}:∀(l:List EvD)(i:Nat)(r:ReD),a<r.sorts.length->b<r.sorts.length->(M9 size a b l i r).2=true->ExR size r (M9 size a b l i r).1/\∀e∈l,R5 r.sorts e.kind a b=true->I4 r.strat e (r.sorts.getD a soZ) (r.sorts.getD b soZ)∈(M9 size a b l i r).1.sorts
 |[],i,r,_,_,_=>⟨ExR.refl _ _,fun e X=>by cases X⟩
 |e::l,i,r,ha,hb,h=>by
  rw[M9]at h ⊢;have ta:(a:Int).toNat=a:=tN a;have tb:(b:Int).toNat=b:=tN b;rw[ta,tb]at h ⊢;by_cases U:R5 r.sorts e.kind a b=true
  .rw[if_pos U]at h ⊢;by_cases S:(am r (I4 r.strat e (r.sorts.getD a soZ) (r.sorts.getD b soZ)) size (i,a,b)).2=true
   .rw[if_pos S]at h ⊢;have D:=Gm r (I4 r.strat e (r.sorts.getD a soZ) (r.sorts.getD b soZ)) size (i,a,b);have J:=CW S;have E:=D.so.length_le;obtain⟨O,W⟩:=eS l (i+1) _ (Nat.lt_of_lt_of_le ha E) (Nat.lt_of_lt_of_le hb E) h;refine⟨D.trans O,fun y z u=>?_⟩;rcases List.mem_cons.1 z with rfl|z
    .exact O.so.subset J
    .have:=W y z (by rw[nY D.so ha hb];exact u);rw[D.st,N9 D.so ha,N9 D.so hb]at this;exact this
   .rw[if_neg S]at h;cases h
  .rw[if_neg U]at h ⊢;obtain⟨O,W⟩:=eS l (i+1) r ha hb h;refine⟨O,fun y z u=>?_⟩;rcases List.mem_cons.1 z with rfl|z
   .exact absurd u U
   .exact W y z u
def ClR(r:ReD)(a b:Nat):Prop:=∀e∈r.labels,R5 r.sorts e.kind a b=true->I4 r.strat e (r.sorts.getD a soZ) (r.sorts.getD b soZ)∈r.sorts
theorem ClR.ex{size:Int}{r O:ReD}{a b:Nat}(h:ClR r a b)(u:ExR size r O)(z:a<r.sorts.length)(D:b<r.sorts.length):ClR O a b:=fun e E J=>by
 rw[u.lb]at E;rw[nY u.so z D]at J;rw[u.st,N9 u.so z,N9 u.so D];exact u.so.subset (h e E J)
theorem jq{size:Int}{m:Nat}:∀(L:List (Nat×Nat))(r:ReD),(∀x∈L,x.1<m/\x.2<m)->m<=r.sorts.length->(W7 size L r).2=true->ExR size r (W7 size L r).1/\∀x∈L,ClR (W7 size L r).1 x.1 x.2
 |[],r,_,_,_=>⟨ExR.refl _ _,fun x X=>by cases X⟩
 |x::L,r,hL,hm,h=>by
  rw[W7]at h ⊢;obtain⟨U,W⟩:=hL x sM;by_cases E:(M9 size x.1 x.2 r.labels 0 r).2=true
  .rw[if_pos E]at h ⊢;obtain⟨u,q2⟩:=eS r.labels 0 r (Nat.lt_of_lt_of_le U hm) (Nat.lt_of_lt_of_le W hm) E;have J:=u.so.length_le;obtain⟨S,k2⟩:=jq L _ (fun y D=>hL y (by simp [D])) (Nat.le_trans hm J) h;refine⟨u.trans S,fun y D=>?_⟩;rcases List.mem_cons.1 D with rfl|D
   .have c1:ClR (M9 size y.1 y.2 r.labels 0 r).1 y.1 y.2:=fun e O z=>by
     rw[u.lb]at O;rw[nY u.so oM oM]at z;rw[u.st,N9 u.so oM,N9 u.so oM];exact q2 e O z
    exact c1.ex S oM oM
   .exact k2 y D
  .rw[if_neg E]at h;cases h
structure BeR(r:ReD)(m:Int):Prop where
 l2:r.size.length=r.sorts.length
 lt:∀k,k<r.sorts.length->r.size.getD k 0<m/\r.size.getD k 0<=200
 cl:∀a b,a<r.sorts.length->b<r.sorts.length->r.size.getD a 0+r.size.getD b 0+1<m->ClR r a b
theorem rP{r:ReD}{size:Int}(h:BeR r size)(hs:0<=size)(hr:(fp r size).2=true)(h0:∀k,k<r.sorts.length->0<=r.size.getD k 0):BeR (fp r size).1 (size+1)/\ExR size r (fp r size).1:=by
 unfold fp at*;obtain⟨J,q2⟩:=jq (m:=r.sorts.length) _ r (fun x hx=>by
  unfold aO at hx;obtain⟨a,U,O⟩:=List.mem_flatMap.1 hx;unfold ic at O;obtain⟨b,u,rfl⟩:=List.mem_map.1 O;exact⟨List.mem_range.1 U,List.mem_range.1 (List.mem_filter.1 u).1⟩) lR hr
 have a4:=J.l2 h.l2;have l2:=h.l2;have a5:=J.so.length_le;have old:∀k,k<r.sorts.length->(W7 size (aO (fun i=>r.size.getD i 0) size r.sorts.length r.sorts.length) r).1.size.getD k 0=r.size.getD k 0:=fun k z=>N9 J.sz oM 0;have D:∀k,k<(W7 size (aO (fun i=>r.size.getD i 0) size r.sorts.length r.sorts.length) r).1.sorts.length->k<r.sorts.length\/((W7 size (aO (fun i=>r.size.getD i 0) size r.sorts.length r.sorts.length) r).1.size.getD k 0=size/\size<=200):=fun k z=>by
  by_cases a2:k<r.sorts.length
  .exact .inl a2
  .exact .inr ⟨J.nw k oM oM,J.big oM⟩
 refine⟨⟨a4,fun k z=>?_,fun a b U O a1=>?_⟩,J⟩
 .rcases D k z with z|⟨W,X⟩
  .rw[old k z];have:=h.lt k z;omega
  .omega
 .have S:∀k,k<(W7 size (aO (fun i=>r.size.getD i 0) size r.sorts.length r.sorts.length) r).1.sorts.length->0<=(W7 size (aO (fun i=>r.size.getD i 0) size r.sorts.length r.sorts.length) r).1.size.getD k 0:=fun k z=>by
   rcases D k z with z|⟨W,X⟩
   .rw[old k z];exact h0 k z
   .omega
  have pa:=S a U;have pb:=S b O;rcases D a U with E|⟨W,X⟩
  .rcases D b O with u|⟨W,X⟩
   .rw[old a E,old b u]at a1;by_cases a3:r.size.getD a 0+r.size.getD b 0+1<size
    .exact(h.cl a b E u a3).ex J E u
    .refine q2 (a,b) ?_;unfold aO;refine List.mem_flatMap.2 ⟨a,List.mem_range.2 E,?_⟩;unfold ic;refine List.mem_map.2 ⟨b,List.mem_filter.2 ⟨List.mem_range.2 u,decide_eq_true ?_⟩,rfl⟩;show r.size.getD a 0+r.size.getD b 0+1=size;omega
   .omega
  .omega
theorem qq:∀(l:List Int)(m:Int),m<=l.foldl mx2 m/\∀x∈l,x<=l.foldl mx2 m
 |[],m=>⟨Int.le_refl _,fun x u=>by cases u⟩
 |y::l,m=>by
  obtain⟨E,z⟩:=qq l (mx2 m y);have D:m<=mx2 m y/\y<=mx2 m y:=by unfold mx2;split<;>omega
  rw[List.foldl_cons];refine⟨oM,fun x u=>?_⟩;rcases List.mem_cons.1 u with rfl|u
  .omega
  .exact z x u
theorem EY:∀(l:List Int)(x:Int),x∈l->x<=mxL l
 |[],x,u=>by cases u
 |y::l,x,u=>by
  obtain⟨z,D⟩:=qq l y;rw[mxL];rcases List.mem_cons.1 u with rfl|u
  .exact z
  .exact D x u
theorem uV{l:List Int}{k:Nat}(u:k<l.length):l.getD k 0∈l:=by
 rw[List.getD_eq_getElem?_getD,List.getElem?_eq_getElem u];exact List.getElem_mem u
theorem kY:∀(k:Nat)(r:ReD)(size:Int){u:ReD},402-size<=k->0<=size->BeR r size->(∀k,k<r.sorts.length->0<=r.size.getD k 0)->km k r size=some u->∀a b,a<u.sorts.length->b<u.sorts.length->ClR u a b
 |0,r,size,u,hk,hs,h,h0,hr,a,b,ha,hb=>by
  rw[km]at hr;cases hr;have:=h.lt a ha;have:=h.lt b hb;exact h.cl a b ha hb oM
 |k+1,r,size,u,hk,hs,h,h0,hr,a,b,ha,hb=>by
  rw[km]at hr;split at hr
  .split at hr
   .rename_i J;obtain⟨D,E⟩:=rP h hs J h0;refine kY k _ (size+1) oM oM D (fun j S=>?_) hr a b ha hb;by_cases z:j<r.sorts.length
    .rw[N9 E.sz (oN (h.l2))];exact h0 j z
    .rw[E.nw j (oN (h.l2)) (oN (D.l2))];exact hs
   .cases hr
  .rename_i O;cases hr;have l2:=h.l2;have U:=EY r.size _ (uV (l:=r.size) (k:=a) oM);have W:=EY r.size _ (uV (l:=r.size) (k:=b) oM);exact h.cl a b ha hb (by simp only[decide_eq_true_eq]at O;omega)
theorem sr{q:Q}{r:ReD}(h:kV q=some r){a b:Nat}(u:a<r.sorts.length)(D:b<r.sorts.length):ClR r a b:=by
 unfold kV at h;split at h
 .cases h
 .rename_i l S;refine kY 401 ⟨C0 q,l,[soZ],[0],[(0,0,0)]⟩ 1 oM oM ⟨rfl,fun k E=>?_,fun a b u D z=>?_⟩ (fun k E=>?_) h a b u D
  .have:k=0:=by simpa using E
   subst this;show(0:Int)<1/\(0:Int)<=200;omega
  .have J:a=0:=by simpa using u
   have O:b=0:=by simpa using D
   subst J;subst O;exact absurd z (by show¬((0:Int)+0+1<1);omega)
  .have:k=0:=by simpa using E
   subst this;exact Int.le_refl _
def gj(hs:List Bool)(x:EdD):Bool:=decide (x.2.2.1=0)||(decide (x.2.2.1=3)&&hs.getD x.2.2.2.toNat false)
structure vR(Hs:N7)(lo K:Nat)(s:StD)(e:EvD)(bs:List Bool)(F:Nat->Prop)(H:N7)(rs re:LV)(ba:Option Addr)(bc:Nat):Prop where
 st:StF H F (QR Hs lo K false) (QR Hs lo K true) rs s
 ev:EvF H F re e
 bi:SlF H F 1 (w9 rn) (.slice ba bs.length bc) bs
 lt:∀j,F j->j<H.next
 eq:∀j,j<lo->H.get j=Hs.get j
 lo:lo<=H.next
theorem vR.work{E:N7}{lo K:Nat}{s:StD}{e:EvD}{bs:List Bool}{F:Nat->Prop}{H H':N7}{U S:LV}{J:Option Addr}{O:Nat}(h:vR E lo K s e bs F H U S J O)(z:i6 H.next H H'):vR E lo K s e bs F H' U S J O:=by
 have X:=z.next;have D:∀j,F j->H'.get j=H.get j:=fun j u=>z.get j (h.lt j u);have W:=h.lo;exact⟨h.st.mono D (fun _ h=>h) iF iF,y9 _ _ _ _ _ _ h.ev D (fun _ h=>h),h.bi.mono D (fun _ h=>h) iF,fun j u=>by have:=h.lt j u;omega,fun j u=>by rw[z.get j oM];exact h.eq j u,oM⟩
def og(fi ne:SoD)(b:Int)(x:EdD):Bool:=(decide (x.2.2.1=1)&&ii fi (b+x.2.1))||(decide (x.2.2.1=2)&&ii ne (b+x.2.1))
structure Fr2(pb:Nat)(H H':N7):Prop where
 stay:i6 pb H H'
 but:∀j,j<H.next->j≠pb->H'.get j=H.get j
theorem Fr2.refl(u:Nat)(H:N7):Fr2 u H H:=⟨i6.refl _ _,fun _ _ _=>rfl⟩
theorem Fr2.trans{u:Nat}{A B C:N7}(h:Fr2 u A B)(k:Fr2 u B C):Fr2 u A C:=⟨h.stay.trans k.stay,fun j D z=>by rw[k.but j (oN (h.stay.next)) z,h.but j D z]⟩
theorem Fr2.of{u:Nat}{H H':N7}(h:i6 H.next H H')(D:u<=H.next):Fr2 u H H':=⟨h.weaken D,fun j z _=>h.get j z⟩
theorem Fr2.put{u:Nat}{H:N7}{B:Blk}:Fr2 u H (H.put u B):=⟨i6.put lR,fun j _ z=>j6 (fun q=>z q.symm)⟩
inductive lx(fi ne:SoD)(hs:List Bool)(p:PrD)(b:Int):Nat->Prop
 |en:lx fi ne hs p b p.en.toNat
 |out (x:EdD) (hx:x∈p.ed) (h:og fi ne b x=true):lx fi ne hs p b x.1.toNat
 |mv (x:EdD) (hx:x∈p.ed) (h:gj hs x=true) (k:lx fi ne hs p b x.2.1.toNat):lx fi ne hs p b x.1.toNat
inductive Rch(hs:List Bool)(p:PrD)(q:Nat):Nat->Prop
 |refl:Rch hs p q q
 |step (x:EdD) (hx:x∈p.ed) (h:gj hs x=true) (k:Rch hs p q x.1.toNat):Rch hs p q x.2.1.toNat
theorem Rch.lead{fi ne:SoD}{hs:List Bool}{p:PrD}{b:Int}{q z:Nat}(h:Rch hs p q z):lx fi ne hs p b z->lx fi ne hs p b q:=by
 induction h with
 |refl=>exact id
 |step x u h k D=>exact fun l=>D (.mv x u h l)
theorem U1(c:List Bool)(i j:Nat)(u:i<c.length):(c.set i true).getD j false=(decide (i=j)||c.getD j false):=by
 simp only[List.getD_eq_getElem?_getD,List.getElem?_set];by_cases h:i=j
 .subst h;simp [u]
 .simp [h]
structure mq(fi ne:SoD)(hs:List Bool)(p:PrD)(b:Int)(bs0 bs:List Bool):Prop where
 len:bs.length=bs0.length
 up:∀k,bs0.getD k false=true->bs.getD k false=true
 sound:∀k,bs.getD k false=true->bs0.getD k false=true\/∃q:Nat,(k:Int)=b+q/\(q:Int)<p.st/\lx fi ne hs p b q
 en:bs.getD (b+p.en).toNat false=true
structure vQ(p:PrD)(b:Int)(bs0:List Bool):Prop where
 b0:0<=b
 st:b+p.st<=bs0.length
 sa:0<=p.st
 en:0<=p.en/\p.en<p.st
 ed:∀x∈p.ed,0<=x.1/\x.1<p.st/\0<=x.2.1/\x.2.1<p.st
 kd:∀x∈p.ed,x.2.2.1=0\/x.2.2.1=1\/x.2.2.1=2\/x.2.2.1=3
 zero:∀k:Nat,b<=k->bs0.getD k false=false
section
variable{fi ne:SoD}{hs:List Bool}{p:PrD}{b:Int}{bs0:List Bool}
theorem mq.lead(u:vQ p b bs0){bs:List Bool}(h:mq fi ne hs p b bs0 bs){t:Int}(E:0<=t)(z:ax bs (b+t)=true):lx fi ne hs p b t.toNat:=by
 have J:=u.b0;rcases h.sound _ z with k|⟨q,O,S,D⟩
 .rw[u.zero _ oM]at k;cases k
 .have:q=t.toNat:=oM;rw[<-this];exact D
theorem mq.set(D:vQ p b bs0){bs:List Bool}(h:mq fi ne hs p b bs0 bs){x:EdD}(J:x∈p.ed)(u:kj fi ne hs bs b x=true):mq fi ne hs p b bs0 (bs.set (b+x.1).toNat true):=by
 have hb:=D.b0;have a2:=D.st;obtain⟨e1,e2,X,e4⟩:=D.ed x J;have a1:=h.len;have z:(b+x.1).toNat<bs.length:=oM;have O:lx fi ne hs p b x.1.toNat:=by
  rw[kj]at u;by_cases S:x.2.2.1=1
  .rw[if_pos S]at u;exact .out x J (by rw[og,u,decide_eq_true S];rfl)
  rw[if_neg S]at u;by_cases U:x.2.2.1=2
  .rw[if_pos U]at u;exact .out x J (by rw[og,u,decide_eq_true U,Bool.true_and,Bool.or_true])
  rw[if_neg U]at u;by_cases W:x.2.2.1=3
  .rw[if_pos W,Bool.and_eq_true]at u;exact .mv x J (by rw[gj,u.1,decide_eq_true W,Bool.true_and,Bool.or_true]) (h.lead D X u.2)
  .rw[if_neg W]at u;have k0:x.2.2.1=0:=oN (D.kd x J);exact .mv x J (by rw[gj,decide_eq_true k0,Bool.true_or]) (h.lead D X u)
 refine⟨by rw[List.length_set];exact h.len,fun k E=>by rw[U1 _ _ _ z,h.up k E,Bool.or_true],fun k E=>?_,by rw[U1 _ _ _ z,h.en,Bool.or_true]⟩;rw[U1 _ _ _ z,Bool.or_eq_true,decide_eq_true_eq]at E;rcases E with rfl|E
 .exact .inr ⟨x.1.toNat,oM,oM,O⟩
 .exact h.sound k E
end
def KG(p:PrD):Prop:=(∀x∈p.ed,x.2.2.1=0\/x.2.2.1=1\/x.2.2.1=2\/x.2.2.1=3)/\∀t∈p.ts,OkD true t
theorem KG.edge{p:PrD}(h:KG p)(f t k x:Int)(u:k=0\/k=1\/k=2\/k=3):KG (p.edge f t k x):=⟨fun y z=>by
 rcases List.mem_append.1 z with q|q
 .exact h.1 y q
 .rw[List.mem_singleton.1 q];exact u,h.2⟩
theorem KG.fold(t:Int):∀(l:List Int){p:PrD},KG p->KG (l.foldl (fun m x=>m.edge x t 0 0) p)
 |[],p,h=>h
 |x::l,p,h=>by rw[List.foldl_cons];exact KG.fold t l (h.edge _ _ _ _ (.inl rfl))
mutual
theorem ja:∀(q:Q)(p:PrD),OkD false q->KG p->KG (C6 q p).1
 | .mk o s c v a b,p,hok,hp=>by
  obtain⟨ha,hb,h1,h2,h3⟩:=hok.parts;simp only[Q.op,Q.a,Q.b]at ha hb;rw[C6];split
  .exact IL a p ha hp
  .split
   .exact KG.fold _ _ (yZ a p.st {p with st:=p.st+1} [] ha hp)
   .split
    .exact((Ij a {p with st:=p.st+1} ha hp).edge _ _ _ _ (.inl rfl)).edge _ _ _ _ (.inl rfl)
    .show KG (({p with st:=p.st+2,ts:=if o=7 then p.ts++b else p.ts}:PrD).edge p.st (p.st+1) (if o=2 then 1 else if o=3 then 2 else if o=7 then 3 else 0) (if o=7 then(p.ts.length:Int) else 0));refine KG.edge (p:={p with st:=p.st+2,ts:=if o=7 then p.ts++b else p.ts}) ⟨hp.1,fun t ht=>?_⟩ _ _ _ _ ?_
     .simp only at ht;split at ht
      .rcases List.mem_append.1 ht with q|q
       .exact hp.2 t q
       .exact hb t q
      .exact hp.2 t ht
     .split
      .exact .inr (.inl rfl)
      .split
       .exact .inr (.inr (.inl rfl))
       .split
        .exact .inr (.inr (.inr rfl))
        .exact .inl rfl
theorem IL:∀(l:List Q)(p:PrD),(∀x∈l,OkD false x)->KG p->KG (eu l p).1
 |[],p,_,h=>by rw[eu];exact h
 |x::l,p,h,hp=>by
  rw[eu];exact zP l (C6 x p) (fun y hy=>h y (by simp [hy])) (ja x p (h x (by simp)) hp)
theorem zP:∀(l:List Q)(x:PrD×Int×Int),(∀y∈l,OkD false y)->KG x.1->KG (bO l x).1
 |[],x,_,h=>by rw[bO];exact h
 |q::l,x,h,hx=>by
  rw[bO];exact zP l _ (fun y hy=>h y (by simp [hy])) ((ja q x.1 (h q (by simp)) hx).edge _ _ _ _ (.inl rfl))
theorem yZ:∀(l:List Q)(n:Int)(p:PrD)(es:List Int),(∀y∈l,OkD false y)->KG p->KG (I9 l n p es).1
 |[],n,p,es,_,hp=>by rw[I9];exact hp
 |x::l,n,p,es,h,hp=>by
  rw[I9];exact yZ l n _ _ (fun y hy=>h y (by simp [hy])) ((ja x p (h x (by simp)) hp).edge _ _ _ _ (.inl rfl))
theorem Ij:∀(l:List Q)(p:PrD),(∀x∈l,OkD false x)->KG p->KG (dY l p).1
 |[],p,_,h=>by rw[dY];exact h
 |x::l,p,h,hp=>by
  rw[dY];exact ja x p (h x (by simp)) hp
end
theorem DA(q:Q)(u:OkD false q):KG (B9 q):=by
 have h:=ja q ⟨0,0,0,[],[]⟩ u ⟨(fun x D=>by cases D),(fun t z=>by cases z)⟩;exact h
structure mn(s:StD):Prop where
 len:s.base.length=s.progs.length
 at_:∀(i:Nat) p b,s.progs[i]?=some p->s.base[i]?=some b->b=A0 (s.progs.take i)/\KG p
theorem mn.step{s:StD}(h:mn s){x:Q}(J:OkD false x):mn (E8 s x):=by
 rw[E8];split
 .exact h
 .refine⟨by simp [h.len],fun i p b z D=>?_⟩;simp only at z D ⊢;by_cases E:i<s.progs.length
  .rw[List.getElem?_append_left E]at z;rw[List.getElem?_append_left (by rw[h.len];exact E)]at D;rw[List.take_append_of_le_length oM];exact h.at_ i p b z D
  .have u:i=s.progs.length:=by
    have:=(gS z).1;simp at this;omega
   rw[List.getElem?_append_right oM,u,Nat.sub_self]at z;rw[List.getElem?_append_right (by rw[h.len];omega),u,h.len,Nat.sub_self]at D;simp at z D;subst z D;rw[u,List.take_left];exact⟨rfl,DA x J⟩
end Go.Proofs.YtofbhlhamfkljaaGreatDoor.Ve
