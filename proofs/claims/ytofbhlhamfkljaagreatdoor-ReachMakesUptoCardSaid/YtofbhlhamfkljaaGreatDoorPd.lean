/- A part of the claim: the evaluator and the contracts. Conditions: none here. -/
import Derived.Test.YtofbhlhamfkljaaGreatDoorPc
import Derived.Test.YtofbhlhamfkljaaGreatDoorProg
import Derived.KernelRfl
set_option linter.unusedVariables false
set_option linter.unusedSimpArgs false
set_option maxHeartbeats 0
set_option maxRecDepth 1000000
namespace Go.Proofs.YtofbhlhamfkljaaGreatDoor.Ve
open Go Go.RowKit
open Go.Proofs.Tryz (prog)
theorem mP(q:Q)(p:PrD)(h:q.op=6){x:Q}(u:q.a=[x]):C5 q p=(((C5 x {p with st:=p.st+1}).1.edge p.st (C5 x {p with st:=p.st+1}).2.1 0 0).edge (C5 x {p with st:=p.st+1}).2.2 p.st 0 0,p.st,p.st):=by
 cases q;simp only[Q.op]at h;simp only[Q.a]at u;subst h;subst u;rw[C5,if_neg (by decide),if_neg (by decide),if_pos rfl,aC3]
theorem ze(K k:Nat)(hk:k<=K)(ih:jY K k)(q:Q)(h6:q.op=6)(H:d9)(lo:Nat)(F:Nat->Prop)(Rt:LV->Q->Prop)(cs e3:LV)(p:PrD)(o2:lo<=H.next)(hF:∀j,F j->j<H.next) (hr:QR H lo (k+1) false cs q)
  (i3:∀k' el x,k'<=K->QR H lo k' true el x->Rt el x) (hp:PrF H F Rt e3 p) (k2:OkD false q) (d1:iq (nQ q) p):
  Ret (CL prog O8 90 [.agg e3.toArray,.agg cs.toArray] H) H (vW H F Rt (C5 q p)):=by
 obtain⟨f0,f1,f2,f3⟩:=d1;have k1:=dE q;obtain⟨m2,_,o1,_,m3⟩:=k2.parts;obtain⟨l1,l2,_,_⟩:=dk m3;have e1:lst false q.op=1/\mst false q.op=1:=by rw[h6];decide
 rw[e1.1]at l1;rw[e1.2]at l2;obtain⟨va,ca,wa,g6,rfl,h1,h2,h3,n2⟩:=hr.path;obtain⟨ea,ec,ta,tc,rfl,he,ht⟩:=E1 hp;obtain⟨x,nb,o,n0,own,el,hx,hd,rfl,o3,d8,k0,b5,hR⟩:=h1.row (i:=0) oM;have b7:q.a=[x]:=by
  obtain⟨y,hy⟩:=List.length_eq_one_iff.1 (show q.a.length=1 from oM);rw[hy]at hx ⊢;simpa using hx
 simp only[qSz,bF,Nat.zero_mul,Nat.add_zero]at b5 d8 k0;have p0:nQ x+1<=nQ q:=by rw[k1,b7,nL,nL];omega
 rw[mP q p h6 b7];obtain⟨a9,J⟩:=eY ([iV p.st,iV p.sa,iV p.en,.slice ea p.ed.length ec,.slice ta p.ts.length tc]:LV);obtain⟨U,O⟩:=eY ([iV q.op,.slice (some ⟨nb,o,none⟩) q.a.length ca,.slice wa q.b.length g6]:LV);obtain⟨H1,i1,hS,j1,d2,j2,e2,o4⟩:=vA H a9 U z7;have a1:a9.all oC=true:=by rw[J];rfl
 have a2:U.all oC=true:=by rw[O];rfl
 have r0:a9[0]?=some (.int .i64 p.st):=by rw[J];rfl
 have q0:U[0]?=some (.int .i64 q.op):=by rw[O];rfl
 have q1:U[1]?=some (.slice (some ⟨nb,o,none⟩) q.a.length ca):=by rw[O];rfl
 have lr:a9.length=5:=by rw[J];rfl
 have o0:(0:Int)<q.a.length:=oM;obtain⟨D,I⟩:=eY ([iV (p.st+1),iV p.sa,iV p.en,.slice ea p.ed.length ec,.slice ta p.ts.length tc]:LV);have k9:splice a9 0 [iV (p.st+1)]=D:=by rw[J,I];rfl
 have m1:D.length=5:=by rw[I];rfl
 obtain⟨H2,a3⟩:=eY (H1.put H.next (bC D 1));have c9:i4 H.next H1 H2:=by rw[a3];exact i4.put lR
 have o5:H2.next=H1.next:=by rw[a3,j5]
 have c7:H2.get H.next=cE D 1:=by rw[a3];exact i8 oM
 have h8:H2.get (H.next+1)=cE U 1:=by rw[a3,i9 oM];exact d2
 have h9:H2.get (H.next+2)=cE z7 1:=by rw[a3,i9 oM];exact j2
 have c4:decide (q.op=4)=false:=decide_eq_false oM;have c5:decide (q.op=5)=false:=decide_eq_false oM;have c6:decide (q.op=6)=true:=decide_eq_true h6;have l3:ldC (some true) (some 5) 0 D=some (.agg D.toArray):=by rw[I];rfl
 have S:i4 H.next H H2:=hS.trans c9;have n6:∀i,¬F (H.next+i):=fun i q=>oN (hF _ q);have h7:H2.get nb=_:=(S.get nb oM).trans d8;have k3:PrF H2 F Rt D {p with st:=p.st+1}:=⟨_,_,I,he.mono (fun j z=>S.get j (hF j z)) (fun _ h=>h) iF,ht.mono (fun j z=>S.get j (hF j z)) (fun _ h=>h) iF⟩
 obtain⟨v3,n1,H3,b2,d3,m9,rfl,b3,b6⟩:=ih H2 lo F Rt el D x {p with st:=p.st+1} oM (fun j z=>by have:=hF j z;omega) (hR.mono (fun j z=>S.get j oM) lR)
  (fun k' el x j3 h=>i3 k' el x j3 (h.mono (fun j z=>(S.get j oM).symm) lR)) k3 (m2 x (by rw[b7];simp)) ⟨by show 0<=p.st+1;omega,by show p.st+1+2*_<=_;omega,by show p.ed.length+_<=_;omega,by show p.ts.length+_<=_;omega⟩
 have d6:=E8 x {p with st:=p.st+1};obtain⟨r,k8⟩:∃r,r=C5 x {p with st:=p.st+1}:=eX;rw[<-k8]at b3 d6 b2 ⊢;obtain⟨g1,g2,g3,g4⟩:=d6;simp only at g1 g2 g3 g4;obtain⟨b9,c0,e4,e5,rfl,n7,p3⟩:=E1 b3;have o6:=b6.next;obtain⟨K,X⟩:=eY ([iV r.1.st,iV r.1.sa,iV r.1.en,.slice b9 r.1.ed.length c0,.slice e4 r.1.ts.length e5,iV r.2.1,iV r.2.2]:LV);obtain⟨b0,a7⟩:=eY ([iV r.1.st,iV r.1.sa,iV r.1.en,.slice b9 r.1.ed.length c0,.slice e4 r.1.ts.length e5]:LV);simp only[List.cons_append,List.nil_append]at b2;rw[<-X]at b2;rw[<-a7]at b3;have aK:K.all oC=true:=by rw[X];rfl
 have lK:K.length=7:=by rw[X];rfl
 have m6:splice z7 0 K=K:=by rw[X];rfl
 obtain⟨H4,i2,n4,c3,b4⟩:=pushP H3 (bC z7 1) (bC K 1);have k4:∀j,j<H2.next->H4.get j=H2.get j:=fun j z=>by rw[b4.get j oM,b6.get j z]
 have e7:H4.get (H.next+2)=cE z7 1:=(k4 _ oM).trans h9;have e6:H4.get H.next=cE D 1:=(k4 _ oM).trans c7;have m0:ldC (some true) (some 5) 0 K=some (.agg b0.toArray):=by rw[X,a7];rfl
 have K5:K[5]?=some (.int .i64 r.2.1):=by rw[X];rfl
 have K6:K[6]?=some (.int .i64 r.2.2):=by rw[X];rfl
 have k5:PrF H4 (P5 F H2 H3) Rt b0 r.1:=b3.mono (fun j z=>by
  rcases z with z|z
  .have:=hF j z;exact b4.get j oM
  .exact b4.get j z.2) (fun _ h=>h) iF
 have c8:∀j,P5 F H2 H3 j->j<H3.next:=by
  rintro j (z|z)
  .have:=hF j z;omega
  .exact z.2
 obtain⟨v5,n3,H5,j0,d4,g7,rfl,k6,a5⟩:=cK H4 (P5 F H2 H3) Rt b0 r.1 p.st r.2.1 0 0 (fun j z=>by have:=c8 j z;omega) k5 oM;have o7:=a5.next;have e8:H5.get H3.next=cE K 1:=(a5.get _ oM).trans c3;have i0:∀j,P5 (P5 F H2 H3) H4 H5 j->j<H5.next:=by
  rintro j (z|z)
  .have:=c8 j z;omega
  .exact z.2
 obtain⟨v6,n5,H6,d0,d5,u,rfl,b8,b1⟩:=cK H5 _ Rt g7 _ r.2.2 p.st 0 0 i0 k6 (by rw[N8];omega);have o8:=b1.next;obtain⟨g9,h0,m7,m8,rfl,n9,p4⟩:=E1 b8;obtain⟨u,E⟩:=eY ([iV ((r.1.edge p.st r.2.1 0 0).edge r.2.2 p.st 0 0).st,iV ((r.1.edge p.st r.2.1 0 0).edge r.2.2 p.st 0 0).sa,iV ((r.1.edge p.st r.2.1 0 0).edge r.2.2 p.st 0 0).en,.slice g9 ((r.1.edge p.st r.2.1 0 0).edge r.2.2 p.st 0 0).ed.length h0,.slice m7 ((r.1.edge p.st r.2.1 0 0).edge r.2.2 p.st 0 0).ts.length m8]:LV);rw[<-E]at b8 d0;have l6:u.length=5:=by rw[E];rfl
 have a6:u.all oC=true:=by rw[E];rfl
 have m4:splice D 0 u=u:=by rw[E,I];rfl
 have l4:ldC (some true) (some 5) 0 u=some (.agg u.toArray):=by rw[E];rfl
 have g5:Q6 (fun i=>([(0,5),(5,1),(6,1)]:List (Nat×Nat))[i]?) z7 [(0,.agg u.toArray),(1,iV p.st),(2,iV p.st)]=some (u++se p.st p.st):=by rw[E];rfl
 have e9:H6.get H.next=cE D 1:=(b1.get _ oM).trans ((a5.get _ oM).trans e6);have g0:H6.get (H.next+2)=cE z7 1:=(b1.get _ oM).trans ((a5.get _ oM).trans e7);obtain⟨H7,W⟩:=eY (H6.put H.next (bC u 1));have h4:H7.get H.next=cE u 1:=by rw[W];exact i8 oM
 have h5:H7.get (H.next+2)=cE z7 1:=by rw[W,i9 oM];exact g0
 have a8:(u++se p.st p.st).all oC=true:=by rw[E];rfl
 have l8:(u++se p.st p.st).length=7:=by rw[E];rfl
 have m5:splice z7 0 (u++se p.st p.st)=u++se p.st p.st:=by rw[E];rfl
 have l5:ldC (some true) (some 7) 0 (u++se p.st p.st)=some (.agg (u++se p.st p.st).toArray):=by rw[E];rfl
 obtain⟨H8,a4⟩:=eY (H7.put (H.next+2) (bC (u++se p.st p.st) 1));have g8:H8.get (H.next+2)=cE (u++se p.st p.st) 1:=by rw[a4];exact i8 (by rw[W,j5];omega)
 have s8:i4 H.next H1 H8:=(((((c9.trans (b6.weaken oM)).trans (b4.weaken oM)).trans (a5.weaken oM)).trans (b1.weaken oM)).trans (show i4 H.next H6 H7 by rw[W];exact i4.put lR)).trans (show i4 H.next H7 H8 by rw[a4];exact i4.put oM);have n8:H8.next=H6.next:=by rw[a4,j5,W,j5]
 have j4:=s8.low e2;have k7:PrF H8 (P5 F H H8) Rt u ((r.1.edge p.st r.2.1 0 0).edge r.2.2 p.st 0 0):=b8.mono (fun j z=>by
  have o9:j≠H.next/\j≠H.next+2:=by
   rcases z with((z|z)|z)|z
   .have:=hF j z;omega
   .omega
   .omega
   .omega
  rw[a4,i9 oM,W,i9 oM]) (fun j z=>by
  rcases z with((z|z)|z)|z
  .exact .inl z
  .exact .inr ⟨oM,oM⟩
  .exact .inr ⟨oM,oM⟩
  .exact .inr ⟨oM,oM⟩) iF
 rw[j8 tC rfl _ sM,<-J,<-O];refine J30 a1 a2 i1.symm j1 d2 r0 q0 q1 lr (aI k9 a3.symm) (aI c7 h8) (aI c4 c5) (aI c6 @wrap_small) (aI l3 h7) (aI b5 b2) (aI d3 aK) (aI lK m6) (aI i2.symm c3) (aI m0 K5) (aI K6 j0) (aI d4 e8) (aI d0 d5) (aI e9 m1) (aI l6 a6) (aI m4 W.symm) (aI h4 l4) (aI h5 g5) (aI a8 l8) (aI m5 a4.symm) (aI g8 l5) ?_;exact cT (r:=(_,p.st,p.st)) k7 (hS.trans s8) j4 (fun h=>h)
structure Ft(Kc row4:LV)(r:PrD×Int×Int):Prop where
 all:Kc.all Value.oneCell'=true
 len:Kc.length=7
 spl:splice z7 0 Kc=Kc
 ld5:ldC (some true) (some 5) 0 Kc=some (.agg row4.toArray)
 ld7:ldC (some true) (some 7) 0 Kc=some (.agg Kc.toArray)
 c5:Kc[5]?=some (.int .i64 r.2.1)
 c6:Kc[6]?=some (.int .i64 r.2.2)
 row:Kc=row4++se r.2.1 r.2.2
 len4:row4.length=5
 all4:row4.all Value.oneCell'=true
 spl7:∀K2:LV,K2.length=7->splice K2 0 Kc=Kc
 spl5:∀R:LV,R.length=5->splice R 0 row4=row4
 bld:∀s e:Int,Q6 (fun i=>([(0,5),(5,1),(6,1)]:List (Nat×Nat))[i]?) z7 [(0,.agg row4.toArray),(1,iV s),(2,iV e)]=some (row4++se s e)
 ld:ldC (some true) (some 5) 0 row4=some (.agg row4.toArray)
theorem w7:∀(A B:LV),A.length=B.length->splice A 0 B=B:=by
 intro A B h;apply List.ext_getElem?;intro i;rw[V6 B A 0 i oM];split
 .simp
 .rw[List.getElem?_eq_none oM,List.getElem?_eq_none oM]
theorem ic{H:d9}{F:Nat->Prop}{z:LV->Q->Prop}{u:LV}{r:PrD×Int×Int}(h:PrF H F z u r.1):Ft (u++se r.2.1 r.2.2) u r:=by
 obtain⟨E,I,J,O,rfl,_,_⟩:=E1 h;exact⟨rfl,rfl,rfl,rfl,rfl,rfl,rfl,rfl,rfl,rfl,fun D y=>w7 _ _ (by rw[y];rfl),fun R y=>w7 _ _ (by rw[y];rfl),fun s e=>rfl,rfl⟩
theorem jS(K k:Nat)(ih:jY K k)(lo:Nat)(F:Nat->Prop)(Rt:LV->Q->Prop)(Hx:d9)(el D:LV)(x:Q)(z:PrD)(a6:lo<=Hx.next)(hF:∀j,F j->j<Hx.next) (hr:QR Hx lo k false el x)
  (a4:∀k' el x,k'<=K->QR Hx lo k' true el x->Rt el x) (hp:PrF Hx F Rt D z) (a7:OkD false x) (S:iq (nQ x) z):
  ∃h3 y E u,CL prog O8 90 [.agg D.toArray,.agg el.toArray] Hx=dr (.agg (u++se (C5 x z).2.1 (C5 x z).2.2).toArray) h3/\h3.getD Hx=y/\E=(y.push (bC z7 1)).put y.next (.cells (u++se (C5 x z).2.1 (C5 x z).2.2) true 1)/\
   E.next=y.next+1/\E.get y.next=some (.cells (u++se (C5 x z).2.1 (C5 x z).2.2) true 1)/\Hx.next<=y.next/\i4 Hx.next Hx E/\PrF E (P5 F Hx y) Rt u (C5 x z).1/\Ft (u++se (C5 x z).2.1 (C5 x z).2.2) u (C5 x z)/\(∀j,P5 F Hx y j->j<y.next):=by
 obtain⟨v3,a3,y,a5,U,I,rfl,a1,O⟩:=ih Hx lo F Rt el D x z a6 hF hr a4 hp a7 S;have X:=O.next;have J:∀j,P5 F Hx y j->j<y.next:=by
  rintro j (W|W)
  .have:=hF j W;omega
  .exact W.2
 have a2:i4 y.next y ((y.push (bC z7 1)).put y.next (.cells (I++se (C5 x z).2.1 (C5 x z).2.2) true 1)):=(i4.push lR).trans (i4.put lR);exact⟨a3,y,_,I,a5,U,rfl,by rw[j5,i5],i8 (by rw[i5];omega),X,O.trans (a2.weaken X),a1.mono (fun j W=>a2.get j (J j W)) (fun _ h=>h) iF,ic a1,J⟩
theorem Ca(K k:Nat)(hk:k<=K)(ih:jY K k)(H0:d9)(lo I:Nat)(F:Nat->Prop)(Rt:LV->Q->Prop)(e7:lo<=I)(hF:∀j,F j->j<I) (d0:∀k' el x,k'<=K->QR H0 lo k' true el x->Rt el x) (e3:I+3<=H0.next)
  (va:Option Addr) (ca:Nat) (l:List Q) (hv:QsR H0 lo k false (.slice va l.length ca) l) (hn:l.length<=1048576) (d5:∀x∈l,OkD false x) (a3:LV) (hq:H0.get (I+1)=cE a3 1) (b8:a3[1]?=some (.slice va l.length ca)) (g4:H0.get (I+2)=cE z7 1) (W:PrD×Int×Int):
  ∀kk e H2,(∃(i E:Nat)(r:PrD×Int×Int)(u:LV)(G:Nat->Prop),kk=l.length-i/\i<=l.length/\e.get 3=pT (I+1)/\e.get 4=pT (I+2)/\e.get 6=pT E/\e.get 7=iV r.2.1/\e.get 8=iV i/\
    H2.get E=cE (u++se r.2.1 r.2.2) 1/\I+3<=E/\E<H2.next/\PrF H2 G Rt u r.1/\(∀j,G j->(F j\/I+3<=j)/\j<H2.next/\j≠E)/\i4 (I+3) H0 H2/\iq (nL (l.drop i)) r.1/\cP (l.drop i) r=W)->
  u9 (LE prog O8 (.loop Gr) e H2) (fun o e H2=>o= .exit 0/\e.get 4=pT (I+2)/\∃(E:Nat)(u:LV)(G:Nat->Prop),e.get 6=pT E/\H2.get E=cE (u++se W.2.1 W.2.2) 1/\PrF H2 G Rt u W.1/\(∀j,G j->(F j\/I+3<=j)/\j<H2.next)/\i4 (I+3) H0 H2):=by
 refine j7 _ _ ?_;rintro kk e H2 ⟨i,E,r,u,G,e5,hi,f3,f4,f6,f7,f8,g6,d6,b7,hp,hG,hS,O,fu⟩;have e9:=hS.next;have b9:=(hS.get (I+1) oM).trans hq;have h7:=ic hp;obtain⟨Kc,a7⟩:=eY (u++se r.2.1 r.2.2);rw[<-a7]at h7 g6;rcases b:decide ((i:Int)<l.length)with _|_
 .have d1:=dF b;have:l.drop i=[]:=dN oM;rw[this,cP]at fu;refine J5 f3 f8 b9 b8 b ?_;exact l7 ⟨rfl,f4,E,u,G,f6,by rw[<-fu,<-a7];exact g6,by rw[<-fu];exact hp,fun j D=>⟨(hG j D).1,(hG j D).2.1⟩,hS⟩
 have d1:=dT b;obtain⟨x,nb,o,d8,own,el,hx,hd,rfl,e8,b4,e6,a1,hR⟩:=hv.row (i:=i) oM;have nt:(i:Int).toNat=i:=tN i;simp only[qSz,bF]at a1 b4;have c7:=(hS.get nb oM).trans b4;rw[hd]at fu O;rw[cP]at fu;rw[nL]at O;obtain⟨t0,t1,t2,t3⟩:=O;have b3:=E8 x r.1;obtain⟨e1,H3,H4,a2,a4,b1,e4,n4,S,n3,a9,b5,z,c8⟩:=jS K k ih lo G Rt H2 el u x r.1 oM (fun j D=>(hG j D).2.1) (hR.mono (fun j D=>hS.get j oM) lR) (fun k' el x d3 h=>d0 k' el x d3 (h.mono (fun j D=>(hS.get j oM).symm) lR)) hp (d5 x (mG hx)) ⟨t0,oM,oM,oM⟩;obtain⟨y,hy⟩:=eY (C5 x r.1);rw[<-hy]at a4 e4 S b5 z b3 fu;obtain⟨w0,w1,w2,w3⟩:=b3;obtain⟨Kd,c9⟩:=eY (a2++se y.2.1 y.2.2);rw[<-c9]at a4 e4 S z;have a6:H4.get E=cE Kc 1:=(a9.get E b7).trans g6;have d4:¬P5 G H2 H3 E:=by
  rintro(q|q)
  .exact(hG E q).2.2 rfl
  .omega
 obtain⟨v5,e2,H5,d2,b2,a5,rfl,b6,U⟩:=cK H4 (P5 G H2 H3) Rt a2 y.1 r.2.2 y.2.1 0 0 (fun j D=>by have:=c8 j D;omega) b5 oM;have n5:=U.next;have J:=ic (r:=(y.1.edge r.2.2 y.2.1 0 0,r.2.1,y.2.2)) b6;have c4:H5.get H3.next=cE Kd 1:=(U.get _ oM).trans S;have c3:H5.get E=cE Kc 1:=(U.get _ oM).trans a6;obtain⟨Ke,a8⟩:=eY (a5++se r.2.1 y.2.2);have X:=J.bld r.2.1 y.2.2;simp only at J;rw[<-a8]at J X;have c0:=J.spl7 Kc h7.len;refine J30 f3 f6 f7 f8 b9 b8 b c7 nt a1 g6 h7.ld5 h7.len a4 b1 z.all z.len z.spl e4.symm S z.ld5 z.c5 z.c6 a6 h7.c6 d2 (aI b2 c4) (aI c3 X) (aI J.all J.len) (aI c0 @wrap_small) ?_;refine i6 (kk-1) oM ⟨i+1,E,(y.1.edge r.2.2 y.2.1 0 0,r.2.1,y.2.2),a5,P5 (P5 G H2 H3) H4 H5,oM,oM,f3,f4,f6,f7,rfl,by rw[<-a8];exact i8 oM,d6,by rw[j5];omega,b6.mono (fun j D=>i9 ?_) (fun _ h=>h) iF,?_,?_,?_,fu⟩
 .rintro rfl;rcases D with D|D
  .exact d4 D
  .omega
 .rintro j ((D|D)|D)
  .have:=hG j D;exact⟨this.1,by rw[j5];omega,this.2.2⟩
  .exact⟨.inr oM,by rw[j5];omega,oM⟩
  .exact⟨.inr oM,by rw[j5];omega,oM⟩
 .exact((hS.trans (a9.weaken oM)).trans (U.weaken oM)).trans (i4.put oM)
 .refine⟨by simp only[U4];omega,by simp only[U4];omega,by rw[N8];omega,by simp only[bS];omega⟩
theorem pN(q:Q)(p:PrD)(h:q.op=4):C5 q p=hU q.a p:=by
 cases q;simp only[Q.op]at h;subst h;rw[C5,if_pos rfl];rfl
theorem CB(K k:Nat)(hk:k<=K)(ih:jY K k)(q:Q)(h4:q.op=4)(H:d9)(lo:Nat)(F:Nat->Prop)(Rt:LV->Q->Prop)(cs c8:LV)(p:PrD)(e2:lo<=H.next)(hF:∀j,F j->j<H.next) (hr:QR H lo (k+1) false cs q)
  (b2:∀k' el x,k'<=K->QR H lo k' true el x->Rt el x) (hp:PrF H F Rt c8 p) (e3:OkD false q) (b3:iq (nQ q) p):
  Ret (CL prog O8 90 [.agg c8.toArray,.agg cs.toArray] H) H (vW H F Rt (C5 q p)):=by
 obtain⟨f0,f1,f2,f3⟩:=b3;have g8:=dE q;obtain⟨c7,_,o1,_,e8⟩:=e3.parts;obtain⟨l1,l2,_,_⟩:=dk e8;have e1:lst false q.op=2:=by rw[h4];decide
 rw[e1]at l1;obtain⟨va,ca,wa,d0,rfl,h1,h2,h3,g1⟩:=hr.path;obtain⟨ea,ec,ta,tc,rfl,he,ht⟩:=E1 hp;obtain⟨x,nb,o,e9,own,el,hx,hd,rfl,g4,b8,d8,a3,hR⟩:=h1.row (i:=0) oM;simp only[qSz,bF,Nat.zero_mul,Nat.add_zero]at a3 b8 d8;have a7:q.a=x::q.a.drop 1:=by simpa using hd
 have g7:nL q.a=nQ x+nL (q.a.drop 1):=by rw[a7,nL];rfl
 have c6:C5 q p=cP (q.a.drop 1) (C5 x p):=by rw[pN q p h4,a7,hU];rfl
 rw[c6];obtain⟨J,u⟩:=eY ([iV p.st,iV p.sa,iV p.en,.slice ea p.ed.length ec,.slice ta p.ts.length tc]:LV);obtain⟨I,D⟩:=eY ([iV q.op,.slice (some ⟨nb,o,none⟩) q.a.length ca,.slice wa q.b.length d0]:LV);obtain⟨H1,d4,hS,d5,b4,b5,b9,g5⟩:=vA H J I z7;have a1:J.all oC=true:=by rw[u];rfl
 have a2:I.all oC=true:=by rw[D];rfl
 have r0:J[0]?=some (.int .i64 p.st):=by rw[u];rfl
 have q0:I[0]?=some (.int .i64 q.op):=by rw[D];rfl
 have q1:I[1]?=some (.slice (some ⟨nb,o,none⟩) q.a.length ca):=by rw[D];rfl
 have e7:ldC (some true) (some 5) 0 J=some (.agg J.toArray):=by rw[u];rfl
 have g3:(0:Int)<q.a.length:=oM;have c4:decide (q.op=4)=true:=decide_eq_true h4;have d3:H1.get nb=_:=(hS.get nb oM).trans b8;have e5:PrF H1 F Rt J p:=⟨_,_,u,he.mono (fun j E=>hS.get j (hF j E)) (fun _ h=>h) iF,ht.mono (fun j E=>hS.get j (hF j E)) (fun _ h=>h) iF⟩
 obtain⟨g0,H3,H4,a4,a8,b6,e4,n4,W,n3,a5,c0,O,g2⟩:=jS K k ih lo F Rt H1 el J x p oM (fun j E=>by have:=hF j E;omega) (hR.mono (fun j E=>hS.get j oM) lR) (fun k' el x a9 h=>b2 k' el x a9 (h.mono (fun j E=>(hS.get j oM).symm) lR)) e5 (c7 x (by rw[a7];simp)) ⟨f0,oM,oM,oM⟩;have b7:=E8 x p;obtain⟨y,hy⟩:=eY (C5 x p);rw[<-hy]at a8 e4 W c0 O b7 ⊢;obtain⟨w0,w1,w2,w3⟩:=b7;obtain⟨Kd,b0⟩:=eY (a4++se y.2.1 y.2.2);rw[<-b0]at a8 e4 W O;have k4:∀j,j<H1.next->H4.get j=H1.get j:=a5.get;have X:i4 H.next H H4:=hS.trans (a5.weaken oM);rw[j8 tC rfl _ sM,<-u,<-D];refine J20 a1 a2 d4.symm d5 b4 r0 q0 q1 c4 e7 d3 a3 a8 b6 O.all O.len O.spl e4.symm W O.c5 ?_;refine l9 (F:=fun z=>Ret (u5 _ _ _ (u7 (u7 (inBlock 0 z) _) _)) _ _) (Ca K k hk ih H4 lo H.next F Rt e2 hF (fun k' el x a9 h=>b2 k' el x a9 (h.mono (fun j E=>(X.get j oM).symm) lR)) oM (some ⟨nb,o,none⟩) ca q.a (h1.mono (fun j E=>X.get j oM) lR) h3 c7 I ((k4 _ oM).trans b4) q1 ((k4 _ oM).trans b5) (cP (q.a.drop 1) y) (q.a.length-1) _ _
  ⟨1,H3.next,y,a4,P5 F H1 H3,rfl,oM,rfl,rfl,rfl,rfl,by rfl,by rw[<-b0];exact W,oM,oM,c0,?_,i4.refl _ _,⟨oM,oM,oM,oM⟩,rfl⟩) ?_
 .rintro j (E|E)
  .have:=hF j E;exact⟨.inl E,oM,oM⟩
  .exact⟨.inr oM,oM,oM⟩
 rintro o' e' H5 ⟨ho,e6,p6,c9,G,k6,g6,c3,hG,a6⟩;have n5:=a6.next;have S:=ic c3;obtain⟨Ke,b1⟩:=eY (c9++se (cP (q.a.drop 1) y).2.1 (cP (q.a.drop 1) y).2.2);rw[<-b1]at g6 S;have d1:H5.get (H.next+2)=cE z7 1:=(a6.get _ oM).trans ((k4 _ oM).trans b5);obtain⟨H6,U⟩:=eY (H5.put (H.next+2) (bC Ke 1));have d2:H6.get (H.next+2)=cE Ke 1:=by rw[U];exact i8 oM
 have s6:i4 H.next H1 H6:=((a5.weaken oM).trans (a6.weaken oM)).trans (show i4 H.next H5 H6 by rw[U];exact i4.put oM);have d6:=s6.low b9;refine J11 ho e6 k6 g6 S.ld7 d1 S.all S.len S.spl U.symm d2 ?_;rw[b1];refine cT (c3.mono (fun j E=>?_) (fun j E=>?_) iF) (hS.trans s6) d6 (fun h=>h)
 .rw[U];refine i9 ?_;rcases(hG j E).1 with q|q
  .have:=hF j q;omega
  .omega
 .rcases(hG j E).1 with q|q
  .exact .inl q
  .exact .inr ⟨oM,by rw[U,j5];exact(hG j E).2⟩
theorem zh(K k:Nat)(hk:k<=K)(ih:jY K k)(H0:d9)(lo D:Nat)(F:Nat->Prop)(Rt:LV->Q->Prop)(g2:lo<=D)(hF:∀j,F j->j<D) (d4:∀k' el x,k'<=K->QR H0 lo k' true el x->Rt el x) (e9:D+3<=H0.next)
  (va:Option Addr) (ca:Nat) (l:List Q) (hv:QsR H0 lo k false (.slice va l.length ca) l) (hn:l.length<=1048576) (e2:∀x∈l,OkD false x) (X:LV) (hq:H0.get (D+1)=cE X 1) (c0:X[1]?=some (.slice va l.length ca)) (z:Blk) (g4:H0.get (D+2)=some z) (n:Int) (a7:PrD×List Int):
  ∀kk e H2,(∃(i:Nat)(p:PrD)(es:List Int)(w:Value)(u:LV)(G:Nat->Prop),kk=l.length-i/\i<=l.length/\es.length=i/\e.get 2=pT D/\e.get 3=pT (D+1)/\e.get 4=pT (D+2)/\e.get 5=iV n/\e.get 10=w/\e.get 11=iV i/\
    H2.get D=cE u 1/\H2.get (D+1)=cE X 1/\H2.get (D+2)=some z/\PrF H2 G Rt u p/\(∀j,G j->(F j\/D+3<=j)/\j<H2.next/\¬j9 w j)/\t7 H2 (D+3) 1 (R1 inE) w es/\i4 D H0 H2/\iq (nL (l.drop i)) p/\L5 (l.drop i) n p es=a7)->
  u9 (LE prog O8 (.loop Gs) e H2) (fun o e H2=>o= .exit 2/\e.get 2=pT D/\e.get 4=pT (D+2)/\e.get 5=iV n/\∃(w:Value)(u:LV)(G:Nat->Prop),e.get 10=w/\H2.get D=cE u 1/\H2.get (D+2)=some z/\PrF H2 G Rt u a7.1/\(∀j,G j->(F j\/D+3<=j)/\j<H2.next)/\t7 H2 (D+3) 1 (R1 inE) w a7.2/\i4 D H0 H2):=by
 refine j7 _ _ ?_;rintro kk e H2 ⟨i,p,es,w,u,G,f1,hi,f0,f2,f3,f4,f5,f10,f11,g0,gq,gz,hp,hG,hO,hS,W,fu⟩;have g3:=hS.next;have a9:=u6 g0;have b1:=u6 gz;have h7:=ic (r:=(p,0,0)) hp;rcases b:decide ((i:Int)<l.length)with _|_
 .have d6:=dF b;have:l.drop i=[]:=dN oM;rw[this,L5]at fu;refine J5 f3 f11 gq c0 b ?_;exact l7 ⟨rfl,f2,f4,f5,w,u,G,f10,g0,gz,by rw[<-fu];exact hp,fun j E=>⟨(hG j E).1,(hG j E).2.1⟩,by rw[<-fu];exact hO,hS⟩
 have d6:=dT b;obtain⟨x,nb,o,e5,own,el,hx,hd,rfl,b7,b6,g1,a3,hR⟩:=hv.row (i:=i) oM;have nt:(i:Int).toNat=i:=tN i;simp only[qSz,bF]at a3 b6;have c9:=(hS.get nb oM).trans b6;rw[hd]at fu W;rw[L5]at fu;rw[nL]at W;obtain⟨t0,t1,t2,t3⟩:=W;have b5:=E8 x p;obtain⟨e6,H3,H4,a4,a6,b2,e4,n4,a1,n3,a8,b8,I,d0⟩:=jS K k ih lo G Rt H2 el u x p oM (fun j E=>(hG j E).2.1) (hR.mono (fun j E=>hS.get j oM) lR) (fun k' el x e1 h=>d4 k' el x e1 (h.mono (fun j E=>(hS.get j oM).symm) lR)) hp (e2 x (mG hx)) ⟨t0,oM,oM,oM⟩;obtain⟨y,hy⟩:=eY (C5 x p);rw[<-hy]at a6 e4 a1 b8 I b5 fu;obtain⟨w0,w1,w2,w3⟩:=b5;obtain⟨Kd,d1⟩:=eY (a4++se y.2.1 y.2.2);rw[<-d1]at a6 e4 a1 I;obtain⟨v5,e7,H5,d8,b3,U,rfl,b9,a2⟩:=cK H4 (P5 G H2 H3) Rt a4 y.1 n y.2.1 0 0 (fun j E=>by have:=d0 j E;omega) b8 oM;have n5:=a2.next;have a5:=ic (r:=(y.1.edge n y.2.1 0 0,0,0)) b9;have c4:H5.get H3.next=cE Kd 1:=(a2.get _ oM).trans a1;have k5:∀j,j<H2.next->H5.get j=H2.get j:=fun j E=>by rw[a2.get j oM,a8.get j E]
 have c3:H5.get D=cE u 1:=(k5 _ a9).trans g0;have e3:splice u 0 U=U:=a5.spl5 u h7.len4;obtain⟨H6,J⟩:=eY (H5.put D (bC U 1));have n6:H6.next=H5.next:=by rw[J,j5]
 have c7:H6.get H3.next=cE Kd 1:=by rw[J,i9 oM];exact c4
 have k6:∀j,j<H2.next->j≠D->H6.get j=H2.get j:=fun j E O=>by rw[J,i9 (fun q=>O q.symm)];exact k5 j E
 have d2:t7 H6 (D+3) 1 (R1 inE) w es:=hO.same fun b hb=>by have:=hO.lt hb;exact k6 b this.2 oM
 obtain⟨v7,e8,H7,d5,b4,d3,S⟩:=d2.push1F (P:=prog) (t:=29) (cs:=inE y.2.2) (a:=y.2.2) (by exact yL.2.2.2.2.2.2) ty3.1 ty3.2.1 ty3.2.2.1 oM oM rfl rfl oM oM;have n7:=S.next;have nw:∀j,j<D+3->¬j9 w j:=fun j E q=>oN (hO.lt q);have k7:∀j,j<D+3->j≠D->j<H2.next->H7.get j=H2.get j:=fun j E O b7=>by rw[S.but j oM (nw j E),k6 j b7 O]
 have c8:H7.get D=cE U 1:=by rw[S.but D oM (nw D oM),J];exact i8 oM
 refine J30 f2 f3 f5 f10 f11 gq c0 b c9 nt a3 g0 h7.ld a6 b2 I.all I.len I.spl e4.symm a1 I.ld5 I.c5 I.c6 d8 b3 (aI c3 a5.all4) (aI a5.len4 h7.len4) (aI e3 J.symm) (aI c7 d5) (aI b4 @wrap_small) ?_;refine i6 (kk-1) oM ⟨i+1,y.1.edge n y.2.1 0 0,es++[y.2.2],v7,U,P5 (P5 G H2 H3) H4 H5,oM,oM,by simp;omega,f2,f3,f4,f5,rfl,rfl,c8,(k7 _ oM oM (oN (u6 gq))).trans gq,(k7 _ oM oM b1).trans gz,?_,?_,d3,?_,?_,fu⟩
 .refine b9.mono (fun j E=>?_) (fun _ h=>h) iF;have O:j≠D/\j<H6.next/\¬j9 w j:=by
   rcases E with(E|E)|E
   .have:=hG j E;refine⟨?_,oM,this.2.2⟩;rcases this.1 with q|q
    .have:=hF j q;omega
    .omega
   .exact⟨oM,oM,fun q=>by have:=hO.lt q;omega⟩
   .exact⟨oM,oM,fun q=>by have:=hO.lt q;omega⟩
  rw[S.but j O.2.1 O.2.2,J,i9 (fun q=>O.1 q.symm)]
 .rintro j E;have nv:∀b,j9 v7 b->j9 w b\/H6.next<=b:=S.new;rcases E with(E|E)|E
  .have:=hG j E;exact⟨this.1,oM,fun q=>(nv j q).elim this.2.2 (fun q=>oM)⟩
  .exact⟨.inr oM,oM,fun q=>(nv j q).elim (fun q=>by have:=hO.lt q;omega) (fun q=>oM)⟩
  .exact⟨.inr oM,oM,fun q=>(nv j q).elim (fun q=>by have:=hO.lt q;omega) (fun q=>oM)⟩
 .exact(((hS.trans (a8.weaken oM)).trans (a2.weaken oM)).trans (show i4 D H5 H6 by rw[J];exact i4.put lR)).trans (S.stay.weaken oM)
 .refine⟨by simp only[U4];omega,by simp only[U4];omega,by rw[N8];omega,by simp only[bS];omega⟩
theorem xh(H0:d9)(y:Nat)(F:Nat->Prop)(Rt:LV->Q->Prop)(hF:∀j,F j->j<y) (b4:y+3<=H0.next) (w:Value) (J:List Int) (hO:t7 H0 (y+3) 1 (R1 inE) w J) (hl:J.length<=900000) (z:Blk) (gz:H0.get (y+2)=some z) (n t:Int) (a4:PrD):
  ∀kk e H2,(∃(i:Nat)(p:PrD)(u:LV)(G:Nat->Prop),kk=J.length-i/\i<=J.length/\e.get 2=pT y/\e.get 4=pT (y+2)/\e.get 5=iV n/\e.get 10=w/\e.get 13=iV t/\e.get 14=iV i/\
    H2.get y=cE u 1/\PrF H2 G Rt u p/\(∀j,G j->(F j\/y+3<=j)/\j<H2.next)/\(∀j,y<j->j<H0.next->H2.get j=H0.get j)/\i4 y H0 H2/\p.ed.length+J.length<=900000+i/\(J.drop i).foldl (fun m x=>m.edge x t 0 0) p=a4)->
  u9 (LE prog O8 (.loop Gt) e H2) (fun o e H2=>o= .exit 4/\e.get 2=pT y/\e.get 4=pT (y+2)/\e.get 5=iV n/\e.get 13=iV t/\∃(u:LV)(G:Nat->Prop),H2.get y=cE u 1/\H2.get (y+2)=some z/\PrF H2 G Rt u a4/\(∀j,G j->(F j\/y+3<=j)/\j<H2.next)/\i4 y H0 H2):=by
 refine j7 _ _ ?_;rintro kk e H2 ⟨i,p,u,G,b5,hi,f2,f4,f5,f10,f13,f14,g0,hp,hG,D,hS,b2,fu⟩;have b7:=hS.next;have W:=u6 g0;have h7:=ic (r:=(p,0,0)) hp;have a6:=(D (y+2) oM (u6 gz)).trans gz;obtain⟨wa,wc,a3⟩:=hO.slice;have E:=f10;rw[a3]at E;rcases b:decide ((i:Int)<J.length)with _|_
 .have a7:=dF b;have:J.drop i=[]:=dN oM;rw[this,List.foldl_nil]at fu;refine J3 E f14 b ?_;exact l7 ⟨rfl,f2,f4,f5,f13,u,G,g0,a6,by rw[<-fu];exact hp,hG,hS⟩
 have a7:=dT b;obtain⟨x,hx,hd⟩:=S4 (l:=J) (i:=i) oM;obtain⟨nb,c,cs,hv,b8,a1,hg,b6,hR⟩:=hO.at_ hx;rw[a3]at hv;obtain⟨rfl,rfl⟩:wa=some ⟨nb,0,none⟩/\wc=c:=by simpa using hv
 have nt:(i:Int).toNat=i:=tN i;have a9:=(D nb oM a1).trans hg;have c0:cs[i]?=some (.int .i64 x):=by
  have:(cs.drop (i*1)).take 1=[iV x]:=hR;have:=lP (k:=0) oM this
  simpa using this
 rw[hd,List.foldl_cons]at fu;obtain⟨v5,b3,H5,a8,X,S,rfl,a2,O⟩:=cK H2 G Rt u p x t 0 0 (fun j I=>(hG j I).2) hp oM;have n5:=O.next;have U:=ic (r:=(p.edge x t 0 0,0,0)) a2;have a5:H5.get y=cE u 1:=(O.get _ W).trans g0;have b1:splice u 0 S=S:=U.spl5 u h7.len4;refine J19 f2 E f13 f14 b g0 h7.ld a9 nt @Nat.mul_one c0 a8 X a5 U.all4 U.len4 h7.len4 b1 @wrap_small ?_;refine i6 (kk-1) oM ⟨i+1,p.edge x t 0 0,S,P5 G H2 H5,oM,oM,f2,f4,f5,f10,f13,rfl,i8 oM,a2.mono (fun j I=>i9 ?_) (fun _ h=>h) iF,?_,fun j h1 h2=>?_,(hS.trans (O.weaken oM)).trans (i4.put lR),by rw[N8];omega,fu⟩
 .rintro rfl;rcases I with I|I
  .rcases(hG _ I).1 with q|q
   .have:=hF _ q;omega
   .omega
  .omega
 .rintro j (I|I)
  .have:=hG j I;exact⟨this.1,by rw[j5];omega⟩
  .exact⟨.inr oM,by rw[j5];exact I.2⟩
 .rw[i9 oM,O.get j oM,D j h1 h2]
theorem pM(q:Q)(p:PrD)(h:q.op=5):C5 q p=(((L5 q.a p.st {p with st:=p.st+1} []).2.foldl (fun m x=>m.edge x (L5 q.a p.st {p with st:=p.st+1} []).1.st 0 0) {(L5 q.a p.st {p with st:=p.st+1} []).1 with st:=(L5 q.a p.st {p with st:=p.st+1} []).1.st+1}),p.st,(L5 q.a p.st {p with st:=p.st+1} []).1.st):=by
 cases q;simp only[Q.op]at h;subst h;rw[C5,if_neg (by decide),if_pos rfl];rfl
theorem CA(K k:Nat)(hk:k<=K)(ih:jY K k)(q:Q)(h5:q.op=5)(H:d9)(lo:Nat)(F:Nat->Prop)(Rt:LV->Q->Prop)(cs d0:LV)(p:PrD)(g4:lo<=H.next)(hF:∀j,F j->j<H.next) (hr:QR H lo (k+1) false cs q)
  (e8:∀k' el x,k'<=K->QR H lo k' true el x->Rt el x) (hp:PrF H F Rt d0 p) (g6:OkD false q) (b9:iq (nQ q) p):
  Ret (CL prog O8 90 [.agg d0.toArray,.agg cs.toArray] H) H (vW H F Rt (C5 q p)):=by
 obtain⟨f0,f1,f2,f3⟩:=b9;have j3:=dE q;have j0:=pt q.a;obtain⟨i0,_,o1,_,j4⟩:=g6.parts;obtain⟨va,ca,wa,d2,rfl,h1,h2,h3,i3⟩:=hr.path;obtain⟨ea,ec,ta,tc,rfl,he,ht⟩:=E1 hp;rw[pM q p h5];obtain⟨a6,u⟩:=eY ([iV p.st,iV p.sa,iV p.en,.slice ea p.ed.length ec,.slice ta p.ts.length tc]:LV);obtain⟨D,E⟩:=eY ([iV q.op,.slice va q.a.length ca,.slice wa q.b.length d2]:LV);obtain⟨H1,e6,hS,g0,c0,g1,c3,j1⟩:=vA H a6 D z7;have a1:a6.all oC=true:=by rw[u];rfl
 have a2:D.all oC=true:=by rw[E];rfl
 have r0:a6[0]?=some (.int .i64 p.st):=by rw[u];rfl
 have q0:D[0]?=some (.int .i64 q.op):=by rw[E];rfl
 have q1:D[1]?=some (.slice va q.a.length ca):=by rw[E];rfl
 have lr:a6.length=5:=by rw[u];rfl
 obtain⟨O,a4⟩:=eY ([iV (p.st+1),iV p.sa,iV p.en,.slice ea p.ed.length ec,.slice ta p.ts.length tc]:LV);have h0:splice a6 0 [iV (p.st+1)]=O:=by rw[u,a4];rfl
 obtain⟨H2,X⟩:=eY (H1.put H.next (bC O 1));have b6:i4 H.next H1 H2:=by rw[X];exact i4.put lR
 have j2:H2.next=H1.next:=by rw[X,j5]
 have e5:H2.get H.next=cE O 1:=by rw[X];exact i8 oM
 have b2:H2.get (H.next+1)=cE D 1:=by rw[X,i9 oM];exact c0
 have b3:H2.get (H.next+2)=cE z7 1:=by rw[X,i9 oM];exact g1
 have c4:decide (q.op=4)=false:=decide_eq_false oM;have c5:decide (q.op=5)=true:=decide_eq_true h5;have W:i4 H.next H H2:=hS.trans b6;have g7:PrF H2 F Rt O {p with st:=p.st+1}:=⟨_,_,a4,he.mono (fun j y=>W.get j (hF j y)) (fun _ h=>h) iF,ht.mono (fun j y=>W.get j (hF j y)) (fun _ h=>h) iF⟩
 obtain⟨⟨w0,w1,w2,w3⟩,w4⟩:=bA q.a p.st {p with st:=p.st+1} [];obtain⟨r,c7⟩:∃r,r=L5 q.a p.st {p with st:=p.st+1} []:=eX;rw[<-c7]at w0 w1 w2 w3 w4 ⊢;simp only[List.length_nil]at w0 w1 w2 w3 w4;rw[j8 tC rfl _ sM,<-u,<-E];refine J13 a1 a2 e6.symm g0 c0 r0 q0 lr h0 X.symm c4 c5 @wrap_small ?_;refine l9 (F:=fun z=>Ret (u5 _ _ _ (u7 (u7 (inBlock 2 z) _) _)) _ _) (zh K k hk ih H2 lo H.next F Rt g4 hF (fun k' el x g2 h=>e8 k' el x g2 (h.mono (fun j y=>(W.get j oM).symm) lR)) oM va ca q.a (h1.mono (fun j y=>W.get j oM) lR) h3 i0 D b2 q1 _ b3 p.st r q.a.length _ _
  ⟨0,{p with st:=p.st+1},[],nS,O,F,rfl,oM,rfl,rfl,rfl,rfl,rfl,rfl,rfl,e5,b2,b3,g7,fun j y=>⟨.inl y,by have:=hF j y;omega,A9 j⟩,t7.nil,i4.refl _ _,⟨by show 0<=p.st+1;omega,by show p.st+1+2*_<=_;simp;omega,by show p.ed.length+_<=_;simp;omega,by show p.ts.length+_<=_;simp;omega⟩,c7.symm⟩) ?_
 rintro o' e' H5 ⟨ho,k2,h7,h8,w,a7,G,h6,d5,d6,g8,a9,b5,b7⟩;have n5:=b7.next;obtain⟨d3,d4,i1,i2,U,e9,h4⟩:=E1 g8;have s0:a7[0]?=some (.int .i64 r.1.st):=by rw[U];rfl
 have l4:a7.length=5:=by rw[U];rfl
 obtain⟨S,a5⟩:=eY ([iV (r.1.st+1),iV r.1.sa,iV r.1.en,.slice d3 r.1.ed.length d4,.slice i1 r.1.ts.length i2]:LV);have c8:splice a7 0 [iV (r.1.st+1)]=S:=by rw[U,a5];rfl
 obtain⟨H6,J⟩:=eY (H5.put H.next (bC S 1));have n6:H6.next=H5.next:=by rw[J,j5]
 have d8:H6.get H.next=cE S 1:=by rw[J];exact i8 oM
 have e1:H6.get (H.next+2)=cE z7 1:=by rw[J,i9 oM];exact d6
 have c9:∀j,G j->j≠H.next:=fun j y=>by
  rcases(a9 j y).1 with q|q
  .have:=hF j q;omega
  .omega
 have g9:PrF H6 G Rt S {r.1 with st:=r.1.st+1}:=⟨_,_,a5,e9.mono (fun j y=>by rw[J,i9 (fun q=>c9 j y q.symm)]) (fun _ h=>h) iF,h4.mono (fun j y=>by rw[J,i9 (fun q=>c9 j y q.symm)]) (fun _ h=>h) iF⟩
 have e7:t7 H6 (H.next+3) 1 (R1 inE) w r.2:=b5.same fun b hb=>by have:=b5.lt hb;rw[J,i9 oM]
 refine J8 ho k2 d5 s0 l4 c8 J.symm @wrap_small ?_;refine l9 (F:=fun z=>Ret (u5 _ _ _ (u7 (u7 (inBlock 4 z) _) _)) _ _) (xh H6 H.next F Rt hF oM w r.2 e7 oM _ e1 p.st r.1.st _ r.2.length _ _
  ⟨0,{r.1 with st:=r.1.st+1},S,G,rfl,oM,k2,h7,h8,h6,rfl,rfl,d8,g9,fun j y=>⟨(a9 j y).1,by rw[n6];exact(a9 j y).2⟩,fun j _ _=>rfl,i4.refl _ _,by show r.1.ed.length+_<=_;omega,rfl⟩) ?_
 rintro o2 e2 H7 ⟨g5,m2,m4,m5,h9,d1,G7,e3,b1,c6,b0,b8⟩;have n7:=b8.next;have I:=ic (r:=(r.2.foldl (fun m x=>m.edge x r.1.st 0 0) {r.1 with st:=r.1.st+1},p.st,r.1.st)) c6;have a8:=I.bld p.st r.1.st;obtain⟨Ke,b4⟩:=eY (d1++se p.st r.1.st);simp only at I;rw[<-b4]at I a8;obtain⟨H8,a3⟩:=eY (H7.put (H.next+2) (bC Ke 1));have e4:H8.get (H.next+2)=cE Ke 1:=by rw[a3];exact i8 (u6 b1)
 have s8:i4 H.next H1 H8:=(((b6.trans b7).trans (show i4 H.next H5 H6 by rw[J];exact i4.put lR)).trans b8).trans (show i4 H.next H7 H8 by rw[a3];exact i4.put oM);have g3:=s8.low c3;refine J15 g5 m2 m4 m5 h9 e3 I.ld a8 b1 I.all I.len I.spl a3.symm e4 I.ld7 ?_;rw[b4];refine cT (r:=(_,p.st,r.1.st)) (c6.mono (fun j y=>?_) (fun j y=>?_) iF) (hS.trans s8) g3 (fun h=>h)
 .rw[a3];refine i9 ?_;rcases(b0 j y).1 with q|q
  .have:=hF j q;omega
  .omega
 .rcases(b0 j y).1 with q|q
  .exact .inl q
  .exact .inr ⟨oM,by rw[a3,j5];exact(b0 j y).2⟩
theorem Cz(K:Nat):∀k,k<=K+1->jY K k:=by
 intro k;induction k with
 |zero=>intro _ H lo F I cs y q p u J E;exact E.elim
 |succ k S=>
  intro hk H lo F I cs y q p u J E z O D h;by_cases U:q.op=4
  .exact CB K k oM (S oM) q U H lo F I cs y p u J E z O D h
  .by_cases W:q.op=5
   .exact CA K k oM (S oM) q W H lo F I cs y p u J E z O D h
   .by_cases X:q.op=6
    .exact ze K k oM (S oM) q X H lo F I cs y p u J E z O D h
    .exact zd K k oM q U W X H lo F I cs y p u J E z O D h
def C0(q:Q):PrD:={(C5 q ⟨0,0,0,[],[]⟩).1 with sa:=(C5 q ⟨0,0,0,[],[]⟩).2.1,en:=(C5 q ⟨0,0,0,[],[]⟩).2.2}
theorem cy(q:Q):0<=(C0 q).st/\(C0 q).st<=2*nQ q:=by
 have:=E8 q ⟨0,0,0,[],[]⟩;unfold X9 at this;simp only[C0];simp only at this;omega
theorem PrF.sub{H:d9}{F F':Nat->Prop}{u:LV->Q->Prop}{cs:LV}{p:PrD}(h:PrF H F u cs p)(y:∀j,F j->F' j):PrF H F' u cs p:=h.mono (fun _ _=>rfl) y iF
theorem aV{H:d9}{F:Nat->Prop}{u:LV->Q->Prop}{cs:LV}{p:PrD}(h:PrF H F u cs p):cs.length=5:=by obtain⟨y,z,D,E,rfl,_⟩:=E1 h;rfl
theorem fd{H:d9}{F:Nat->Prop}{u:LV->Q->Prop}{cs:LV}{p:PrD}(h:PrF H F u cs p):cs.all oC=true:=by obtain⟨y,z,D,E,rfl,_⟩:=E1 h;rfl
def yV(H:d9)(Rt:LV->Q->Prop)(p:PrD)(w:Value)(H1:d9):Prop:=∃cs',w= .agg cs'.toArray/\PrF H1 (fun j=>H.next<=j/\j<H1.next) Rt cs' p/\i4 H.next H H1
theorem qn{H H':d9}{y:LV->Q->Prop}{cs':LV}{p:PrD}(S:PrF H' (fun j=>H.next<=j/\j<H'.next) y cs' p) (J:i4 H.next H H') (O:H.next<=H'.low) {c:Bool} (u:c=true->cs'.all na0=true):
  Ret (some (br c (.agg cs'.toArray,none) (.agg cs'.toArray,some ⟨H'.bs,min H.low H'.low⟩))) H (yV H y p):=by
 obtain⟨E,I,rfl,z,D⟩:=S;refine ce (fun h=>?_) ⟨_,rfl,⟨E,I,rfl,z,D⟩,J.ret O⟩;have h:=u h;simp only[List.all_cons,Bool.and_eq_true]at h;exact⟨_,rfl,⟨E,I,rfl,bX z h.2.2.2.1,bX D h.2.2.2.2.1⟩,i4.refl _ _⟩
abbrev z5:LV:=[iV 0,iV 0,iV 0,nS,nS]
theorem ju(K k:Nat)(hk:k<=K+1)(H:d9)(lo:Nat)(Rt:LV->Q->Prop)(cs:LV)(q:Q)(d0:lo<=H.next)(hr:QR H lo k false cs q)(b3:∀k' el x,k'<=K->QR H lo k' true el x->Rt el x) (b6:OkD false q) (c6:nQ q<=100000):
  Ret (CL prog O8 67 [.agg cs.toArray] H) H (yV H Rt (C0 q)):=by
 have b7:=hr;cases k with
 |zero=>exact hr.elim
 |succ k=>
 obtain⟨va,ca,wa,c7,a7,h1,h2,h3,h4⟩:=hr.path;have a0:cs.all oC=true:=by rw[a7];rfl
 have b9:ldC (some true) (some 3) 0 cs=some (.agg cs.toArray):=by rw[a7];rfl
 obtain⟨J,E⟩:=eY ((d9.push ⟨H.bs,H.next⟩ (bC cs 1)).push (bC z5 1));have n0:(d9.push ⟨H.bs,H.next⟩ (bC cs 1)).next=H.next+1:=by rw[i5];rfl
 have hS:i4 H.next H J:=by rw[E];exact(i4.first H _).trans (i4.push oM)
 have g1:J.get H.next=cE cs 1:=by rw[E,j6 oM];exact i7
 have g2:J.get (H.next+1)=cE z5 1:=by rw[E];exact R2 oM
 have a9:H.next<=J.low:=by rw[E,O7,O7];exact lR
 have n1:J.next=H.next+2:=by rw[E,i5,n0]
 have hz:PrF J (fun _=>False) Rt z5 ⟨0,0,0,[],[]⟩:=⟨nS,nS,rfl,.inl ⟨rfl,rfl⟩,.inl ⟨rfl,rfl⟩⟩
 obtain⟨c8,W,H4,b1,a2,a8,e4,n4,X,n3,a5,b0,D,c9⟩:=jS K (k+1) (Cz K (k+1) hk) lo (fun _=>False) Rt J cs z5 q ⟨0,0,0,[],[]⟩ oM (fun j hj=>hj.elim) (b7.mono (fun j hj=>hS.get j oM) lR) (fun k' el x b4 h=>b3 k' el x b4 (h.mono (fun j hj=>(hS.get j oM).symm) lR)) hz b6 ⟨Int.le_refl _,by show(0:Int)+2*_<=_;omega,by simp;omega,by simp;omega⟩;obtain⟨y,hy⟩:=eY (C5 q ⟨0,0,0,[],[]⟩);rw[C0,<-hy];rw[<-hy]at a2 e4 X b0 D;obtain⟨ea,ec,ta,tc,S,he,ht⟩:=E1 b0;obtain⟨Kd,a1⟩:=eY (b1++se y.2.1 y.2.2);rw[<-a1]at a2 e4 X D;obtain⟨Ke,U⟩:=eY (splice Kd 1 [iV y.2.1]);obtain⟨Kf,a4⟩:=eY (splice Ke 2 [iV y.2.2]);obtain⟨u,z⟩:=eY ([iV y.1.st,iV y.2.1,iV y.2.2,.slice ea y.1.ed.length ec,.slice ta y.1.ts.length tc]:LV);have b8:Ke.length=7:=by rw[U,D9];exact D.len
 have e6:Ke[6]?=some (.int .i64 y.2.2):=by rw[U,a1,S];rfl
 have c3:ldC (some true) (some 5) 0 Kf=some (.agg u.toArray):=by rw[a4,U,a1,S,z];rfl
 have a6:u.all oC=true:=by rw[z];rfl
 have l6:u.length=5:=by rw[z];rfl
 have c0:ldC (some true) (some 5) 0 u=some (.agg u.toArray):=by rw[z];rfl
 have c4:splice z5 0 u=u:=w7 _ _ (by rw[l6];rfl);obtain⟨H5,I⟩:=eY ((H4.put W.next (bC Ke 1)).put W.next (bC Kf 1));have b2:H5.get W.next=cE Kf 1:=by rw[I];exact i8 (by rw[j5];omega)
 have a3:H5.get (H.next+1)=cE z5 1:=by rw[I,i9 oM,i9 oM,a5.get _ oM];exact g2
 obtain⟨H6,O⟩:=eY (H5.put (H.next+1) (bC u 1));have n6:H6.next=H4.next:=by rw[O,j5,I,j5,j5]
 have g6:H6.get (H.next+1)=cE u 1:=by rw[O];exact i8 (u6 a3)
 have s6:i4 H.next J H6:=(a5.weaken oM).trans (show i4 H.next H4 H6 by rw[O,I];exact((i4.put oM).trans (i4.put oM)).trans (i4.put oM));have b5:=s6.low a9;have k6:∀j,P5 (fun _=>False) J W j->H6.get j=H4.get j:=fun j hj=>by
  have:J.next<=j/\j<W.next:=hj.elim (fun q=>q.elim) id;rw[O,i9 oM,I,i9 oM,i9 oM]
 have k7:∀j,P5 (fun _=>False) J W j->H.next<=j/\j<H6.next:=fun j hj=>by
  have:J.next<=j/\j<W.next:=hj.elim (fun q=>q.elim) id;omega
 rw[j8 ad5 rfl _ sM];refine J26 a0 E.symm g1 b9 a2 a8 D.all D.len D.spl e4.symm X D.c5 U.symm b8 e6 a4.symm I.symm b2 c3 a3 a6 l6 c4 O.symm g6 c0 ?_;exact qn (p:={y.1 with sa:=y.2.1,en:=y.2.2}) ⟨_,_,z,he.mono k6 k7 iF,ht.mono k6 k7 iF⟩ (hS.trans s6) b5 (fun h=>h)
structure StD where
 paths:List Q
 progs:List PrD
 base:List Int
 main:PrD
def StF(H:d9)(F:Nat->Prop)(Rp Rt:LV->Q->Prop)(cs:LV)(s:StD):Prop:=∃v1 v2 v3 ms,cs=[v1,v2,v3]++ms/\SlF H F 3 Rp v1 s.paths/\SlF H F 5 (PrF H F Rt) v2 s.progs/\SlF H F 1 (R1 inE) v3 s.base/\PrF H F Rt ms s.main
theorem StF.mono{H H':d9}{F F':Nat->Prop}{J O u y:LV->Q->Prop}{cs:LV}{s:StD}(h:StF H F J O cs s)(E:∀j,F j->H'.get j=H.get j) (z:∀j,F j->F' j) (I:∀cs a,J cs a->u cs a) (D:∀cs a,O cs a->y cs a):StF H' F' u y cs s:=by
 obtain⟨v1,v2,v3,ms,S,U,W,X,h4⟩:=h;exact⟨v1,v2,v3,ms,S,U.mono E z I,W.mono E z (fun _ _ h=>h.mono E z D),X.mono E z iF,h4.mono E z D⟩
theorem N3{H:d9}{F:Nat->Prop}{W U:LV->Q->Prop}{cs:LV}{s:StD}(h:StF H F W U cs s):∃pa J E I u y z D O S,cs=[.slice pa s.paths.length J,.slice E s.progs.length I,.slice u s.base.length y,iV s.main.st,iV s.main.sa,iV s.main.en,.slice z s.main.ed.length D,.slice O s.main.ts.length S]/\
  SlF H F 3 W (.slice pa s.paths.length J) s.paths/\SlF H F 5 (PrF H F U) (.slice E s.progs.length I) s.progs/\SlF H F 1 (R1 inE) (.slice u s.base.length y) s.base/\SlF H F 4 (R1 edE) (.slice z s.main.ed.length D) s.main.ed/\SlF H F 6 U (.slice O s.main.ts.length S) s.main.ts:=by
 obtain⟨v1,v2,v3,ms,rfl,X,h2,h3,h4⟩:=h;obtain⟨pa,J,rfl⟩:=X.slice;obtain⟨E,I,rfl⟩:=h2.slice;obtain⟨u,y,rfl⟩:=h3.slice;obtain⟨z,D,O,S,rfl,h5,h6⟩:=E1 h4;exact⟨pa,J,E,I,u,y,z,D,O,S,rfl,X,h2,h3,h5,h6⟩
theorem SlF.row{H:d9}{F:Nat->Prop}{sz:Nat}{α:Type}{R:LV->α->Prop}{y:Option Addr}{n z:Nat}{l:List α}(h:SlF H F sz R (.slice y n z) l){i:Nat}(u:i<l.length):
  ∃x b o cs own el,l[i]?=some x/\l.drop i=x::l.drop (i+1)/\y=some ⟨b,o,none⟩/\F b/\H.get b=some (.cells cs own sz)/\o+i*sz+sz<=cs.length/\ldC (some true) (some sz) (o+i*sz) cs=some (.agg el.toArray)/\(∀k,k<sz->cs[o+i*sz+k]?=el[k]?)/\R el x:=by
 obtain⟨x,D,O⟩:=S4 (l:=l) (i:=i) u;rcases h with⟨_,h⟩|⟨b,o,c,U,h⟩
 .subst h;simp at u
 .rcases h with h|⟨cs,own,E,I,W,J⟩
  .subst h;simp at u
  .obtain⟨rfl,rfl,rfl⟩:y=some ⟨b,o,none⟩/\n=l.length/\z=c:=by simpa using U
   have:(i+1)*sz<=l.length*sz:=Nat.mul_le_mul_right _ u;rw[Nat.add_mul]at this;exact⟨x,b,o,cs,own,_,D,O,rfl,E,I,oM,pE oM rfl,fun k S=>lP S rfl,J i x D⟩
def y9(l:List PrD):Int:=l.foldl (fun n p=>n+p.st) 0
theorem aB5(H0:d9)(F:Nat->Prop)(X:LV->Q->Prop)(E:Nat)(O:Option Addr)(S:Nat)(l:List PrD)(hv:SlF H0 F 5 (PrF H0 F X) (.slice O l.length S) l)(hn:l.length<=100000)(hb:∀p∈l,0<=p.st/\p.st<=1000000) (h:LV) (J:H0.get E=cE h 1) (W:h[1]?=some (.slice O l.length S)) (r:Int):
  ∀D e H2,(∃(i:Nat)(n:Int),D=l.length-i/\i<=l.length/\0<=n/\n<=1000000*i/\e.get 1=pT E/\e.get 3=iV n/\e.get 4=iV i/\H2=H0/\(l.drop i).foldl (fun n p=>n+p.st) n=r)->
  u9 (LE prog O8 (.loop FI) e H2) (fun o e H2=>H2=H0/\o= .exit 0/\e.get 3=iV r):=by
 refine j7 _ _ ?_;rintro D e H2 ⟨i,n,hk,hi,a3,a4,y,f3,f4,hH,u⟩;subst hH;rcases b:decide ((i:Int)<l.length)with _|_
 .have z:=dF b;have:l.drop i=[]:=dN oM;rw[this,List.foldl_nil]at u;refine J5 y f4 J W b ?_;exact l7 ⟨rfl,rfl,by rw[<-u];exact f3⟩
 have z:=dT b;obtain⟨x,nb,o,cs,own,el,hx,hd,rfl,hF,hg,a2,U,hc,hR⟩:=hv.row (i:=i) oM;have nt:(i:Int).toNat=i:=tN i;have a1:=hb x (mG hx);obtain⟨ea,ec,ta,tc,rfl,_,_⟩:=E1 hR;have I:=hc 0 oM;rw[Nat.add_zero]at I;rw[hd,List.foldl_cons]at u;refine J10 y f3 f4 J W b hg nt I @wrap_small ?_;exact i6 (D-1) oM ⟨i+1,n+x.st,oM,oM,oM,oM,y,rfl,rfl,rfl,u⟩
theorem yp(H:d9)(F:Nat->Prop)(Rp E:LV->Q->Prop)(cs:LV)(s:StD)(W:∀j,F j->j<H.next) (hs:StF H F Rp E cs s) (hn:s.progs.length<=100000) (hb:∀p∈s.progs,0<=p.st/\p.st<=1000000):CL prog O8 43 [.agg cs.toArray] H=some (.int .i64 (y9 s.progs),none):=by
 obtain⟨pa,pc,I,J,ba,bc,ea,ec,ta,tc,y,h1,h2,U,h4,h5⟩:=N3 hs;have a0:cs.all oC=true:=by rw[y];rfl
 have r1:cs[1]?=some (.slice I s.progs.length J):=by rw[y];rfl
 obtain⟨D,u,-,hg,X⟩:=pushF H (bC cs 1);have a1:H.next<=D.low:=by rw[u,O7];exact lR
 have O:SlF D F 5 (PrF D F E) (.slice I s.progs.length J) s.progs:=h2.mono (fun j S=>X.get j (W j S)) (fun _ h=>h) (fun _ _ h=>h.mono (fun j S=>X.get j (W j S)) (fun _ h=>h) iF);rw[j8 ab9 rfl _ sM];refine J2 a0 u.symm ?_;refine l9 (F:=fun z=>u5 _ _ _ (u7 (inBlock 0 z) _)=_) (aB5 D F E H.next I J s.progs O hn hb cs hg r1 (y9 s.progs) s.progs.length _ _ ⟨0,0,rfl,oM,oM,oM,rfl,rfl,rfl,rfl,rfl⟩) ?_;rintro o e' H' ⟨hH,ho,U⟩;exact J3 ho hH U trivial
def jj(l:List Q)(x:Q):Int:=ixG (fun y=>M0 y x) l 0
theorem an0(k:Nat)(H0:d9)(F:Nat->Prop)(lo I:Nat)(X:lo<=H0.next)(pa:Option Addr)(pc:Nat)(l:List Q)(hv:SlF H0 F 3 (QR H0 lo k false) (.slice pa l.length pc) l)(hn:l.length<=100000)(E el:LV)(x:Q)(hx:QR H0 lo k false el x)(U:H0.get I=cE E 1)(r0:E[0]?=some (.slice pa l.length pc))(g1:H0.get (I+1)=cE el 1)(r:Int):
  ∀kk e H2,(∃i:Nat,kk=l.length-i/\i<=l.length/\e.get 2=pT I/\e.get 3=pT (I+1)/\e.get 5=iV i/\H2=H0/\ixG (fun y=>M0 y x) (l.drop i) i=r)->
  u9 (LE prog O8 (.loop Gb) e H2) (fun o e H2=>H2=H0/\((o= .exit 0/\r= -1)\/(o= .ret/\e.get 4=iV r))):=by
 refine j7 _ _ ?_;rintro kk e H2 ⟨i,hk,hi,O,f3,f5,hH,z⟩;subst hH;rcases b:decide ((i:Int)<l.length)with _|_
 .have W:=dF b;have:l.drop i=[]:=dN oM;rw[this,ixG]at z;refine J5 O f5 U r0 b ?_;exact l7 ⟨rfl,.inl ⟨rfl,z.symm⟩⟩
 have W:=dT b;obtain⟨y,nb,o,cs,own,S,hy,hd,rfl,hF,hg,a1,u,hc,hR⟩:=hv.row (i:=i) oM;have nt:(i:Int).toNat=i:=tN i;have D:ldC (some true) (some 3) 0 el=some (.agg el.toArray):=by
  cases k with
  |zero=>exact hx.elim
  |succ k=>obtain⟨_,_,_,_,rfl,_⟩:=hx.path;rfl
 have h:=(BZ k).1 H2 lo S el y x X hR hx;rw[hd,ixG]at z;rcases J:M0 y x with _|_
 .simp only[J,bF]at z;rw[J]at h;refine J13 O f3 f5 U r0 b hg nt u g1 D h @wrap_small ?_;exact i6 (kk-1) oM ⟨i+1,oM,oM,O,f3,rfl,rfl,z⟩
 .simp only[J,if_true]at z;rw[J]at h;refine J12 O f3 f5 U r0 b hg nt u g1 D h ?_;exact A6 ⟨rfl,.inr ⟨rfl,by rw[<-z];rfl⟩⟩
theorem aC4(k:Nat)(H:d9)(F:Nat->Prop)(lo:Nat)(Rt:LV->Q->Prop)(cs el:LV)(s:StD)(x:Q)(a3:lo<=H.next)(hF:∀j,F j->j<H.next) (hs:StF H F (QR H lo k false) Rt cs s) (O:QR H lo k false el x) (hn:s.paths.length<=100000):
  CL prog O8 69 [.agg cs.toArray,.agg el.toArray] H=some (.int .i64 (jj s.paths x),none):=by
 obtain⟨pa,S,ga,gc,ba,bc,ea,ec,ta,tc,D,h1,h2,h3,U,h5⟩:=N3 hs;have a0:cs.all oC=true:=by rw[D];rfl
 have r1:cs[0]?=some (.slice pa s.paths.length S):=by rw[D];rfl
 have a1:el.all oC=true:=by
  cases k with
  |zero=>exact O.elim
  |succ k=>obtain⟨_,_,_,_,rfl,_⟩:=O.path;rfl
 obtain⟨y,u⟩:=eY ((d9.push ⟨H.bs,H.next⟩ (bC cs 1)).push (bC el 1));have n0:(d9.push ⟨H.bs,H.next⟩ (bC cs 1)).next=H.next+1:=by rw[i5];rfl
 have I:i4 H.next H y:=by rw[u];exact(i4.first H _).trans (i4.push oM)
 have g1:y.get H.next=cE cs 1:=by rw[u,j6 oM];exact i7
 have g2:y.get (H.next+1)=cE el 1:=by rw[u];exact R2 oM
 have a2:H.next<=y.low:=by rw[u,O7,O7];exact lR
 have a4:=I.next;have q1:∀cs a,QR H lo k false cs a->QR y lo k false cs a:=fun _ _ h=>h.mono (fun j X=>I.get j oM) lR;have E:SlF y F 3 (QR y lo k false) (.slice pa s.paths.length S) s.paths:=h1.mono (fun j X=>I.get j (hF j X)) (fun _ h=>h) q1;rw[j8 ad7 rfl _ sM];refine J3 a0 a1 u.symm ?_;refine l9 (F:=fun z=>u5 _ _ _ (u7 (inBlock 0 z) _)=_) (an0 k y F lo H.next oM pa S s.paths E hn cs el x (q1 _ _ O) g1 r1 g2 (jj s.paths x) s.paths.length _ _ ⟨0,rfl,oM,rfl,rfl,rfl,rfl,rfl⟩) ?_;rintro o e' H' ⟨W,⟨J,hr⟩|⟨J,U⟩⟩
 .exact J3 J W hr trivial
 .exact J3 J W U trivial
def ni(s:StD)(x:Q):StD:=if s.paths.any (fun y=>M0 y x) then s else⟨s.paths++[x],s.progs++[C0 x],s.base++[y9 s.progs],s.main⟩
def D0(q:Q):StD:=(inQ false q).foldl ni ⟨[],[],[],C0 q⟩
theorem X0(l:List PrD)(p:PrD):y9 (l++[p])=y9 l+p.st:=by simp [y9]
theorem uN(K:Nat)(H:d9)(lo b0 E:Nat)(i1:lo<=b0)(m4:b0=H.next)(r5:b0+2<=E)(Rt:LV->Q->Prop)(l6:∀k' el x,k'<=K->QR H lo k' true el x->Rt el x) (lv:Value) (l:List Q) (hl:l.length<=100000) (m9:∀x∈l,OkD false x/\nQ x<=100000) (ms:LV) (z:Blk) (H1:d9) (e7:i4 b0 H H1) (hz:H1.get (b0+1)=some z) (d3:StD):
  ∀kk e H2,(∃(i:Nat)(s:StD)(w1 w2 w3:Value)(G:Nat->Prop),kk=l.length-i/\i<=l.length/\s.progs.length<=i/\s.paths.length=s.progs.length/\s.base.length=s.progs.length/\0<=y9 s.progs/\y9 s.progs<=200000*i/\
    e.get 2=pT (b0+1)/\e.get 3=pT E/\e.get 4=lv/\e.get 5=iV (y9 s.progs)/\e.get 6=iV i/\
    H2.get E=cE (w1::w2::w3::ms) 1/\PrF H2 G Rt ms s.main/\SlF H2 G 3 (QR H lo K false) lv l/\t7 H2 (E+1) 3 (QR H lo K false) w1 s.paths/\t7 H2 (E+1) 5 (PrF H2 G Rt) w2 s.progs/\t7 H2 (E+1) 1 (R1 inE) w3 s.base/\
    (∀j,G j->b0+2<=j/\j<H2.next/\j≠E/\¬j9 w1 j/\¬j9 w2 j/\¬j9 w3 j)/\(∀j,j9 w1 j->¬j9 w2 j/\¬j9 w3 j)/\(∀j,j9 w2 j->¬j9 w3 j)/\i4 (b0+2) H1 H2/\(l.drop i).foldl ni s=d3)->
  u9 (LE prog O8 (.loop FF) e H2) (fun o e H2=>o= .exit 0/\e.get 2=pT (b0+1)/\e.get 3=pT E/\∃(w1 w2 w3:Value)(G:Nat->Prop),H2.get E=cE (w1::w2::w3::ms) 1/\PrF H2 G Rt ms d3.main/\t7 H2 (E+1) 3 (QR H lo K false) w1 d3.paths/\t7 H2 (E+1) 5 (PrF H2 G Rt) w2 d3.progs/\t7 H2 (E+1) 1 (R1 inE) w3 d3.base/\(∀j,G j->b0+2<=j/\j<H2.next/\j≠E)/\i4 (b0+2) H1 H2):=by
 subst m4;refine j7 _ _ ?_;rintro kk e H2 ⟨i,s,w1,w2,w3,G,q9,hi,r6,j1,h6,m6,q8,f2,f3,f4,f5,f6,g3,c5,d8,U,O,I,hG,d1,d2,hS,fu⟩;have r4:=hS.next;have q7:=e7.next;have r7:=u6 hz;have j0:=u6 g3;obtain⟨la,lc,i2⟩:=d8.slice;subst i2;rcases b:decide ((i:Int)<l.length)with _|_
 .have m3:=dF b;have:l.drop i=[]:=dN oM;rw[this,List.foldl_nil]at fu;refine J3 f4 f6 b ?_;exact l7 ⟨rfl,f2,f3,w1,w2,w3,G,g3,by rw[<-fu];exact c5,by rw[<-fu];exact U,by rw[<-fu];exact O,by rw[<-fu];exact I,fun j D=>⟨(hG j D).1,(hG j D).2.1,(hG j D).2.2.1⟩,hS⟩
 have m3:=dT b;obtain⟨x,nb,o,p5,own,el,hx,hd,rfl,h0,e9,r1,e5,hc,hR⟩:=d8.row (i:=i) oM;have nt:(i:Int).toNat=i:=tN i;obtain⟨i3,m8⟩:=m9 x (mG hx);have o9:=cy x;rw[hd,List.foldl_cons]at fu;have d4:∀cs a,QR H lo K false cs a->QR H2 lo K false cs a:=fun _ _ h=>h.mono (fun j D=>by rw[hS.get j oM,e7.get j oM]) lR;obtain⟨pa,pc,e1⟩:=U.slice;obtain⟨ga,gc,e2⟩:=O.slice;obtain⟨ba,bc,e3⟩:=I.slice;obtain⟨ea,ec,ta,tc,k6,r2,r3⟩:=E1 c5;have n0:StF H2 (fun j=>G j\/j9 w1 j\/j9 w2 j\/j9 w3 j) (QR H2 lo K false) Rt (w1::w2::w3::ms) s:=⟨w1,w2,w3,ms,rfl,(U.frz fun b S=> .inr (.inl S)).mono (fun _ _=>rfl) (fun _ h=>h) d4,(O.frz fun b S=> .inr (.inr (.inl S))).mono (fun _ _=>rfl) (fun _ h=>h) (fun _ _ h=>h.sub fun j D=> .inl D),I.frz fun b S=> .inr (.inr (.inr S)),c5.sub fun j D=> .inl D⟩
 have j2:∀j,(G j\/j9 w1 j\/j9 w2 j\/j9 w3 j)->j<H2.next:=by
  rintro j (q|q|q|q)
  .exact(hG j q).2.1
  .exact(U.lt q).2
  .exact(O.lt q).2
  .exact(I.lt q).2
 have a9:=aC4 K H2 _ lo Rt (w1::w2::w3::ms) el s x oM j2 n0 (d4 _ _ hR) oM;have b1:ldC (some true) (some 8) 0 (w1::w2::w3::ms)=some (.agg (w1::w2::w3::ms).toArray):=by rw[e1,e2,e3,k6];rfl
 obtain⟨R8,c9⟩:=eY (w1::w2::w3::ms);rw[<-c9]at g3 a9 b1;have f0:=aV c5;have l8:R8.length=8:=by rw[c9];simp [f0]
 have o2:R8[0]?=some w1:=by rw[c9];rfl
 have b9:decide (0<=jj s.paths x)=s.paths.any (fun y=>M0 y x):=eU _ _;rcases b2:s.paths.any (fun y=>M0 y x)with _|_
 .rw[b2]at b9;have b3:ni s x=⟨s.paths++[x],s.progs++[C0 x],s.base++[y9 s.progs],s.main⟩:=by rw[ni,b2];rfl
  rw[b3]at fu;obtain⟨v3,p6,H3,m5,h7,J,rfl,X,d6⟩:=ju K K oM H2 lo Rt el x oM (d4 _ _ hR) (fun k' el x m7 h=>l6 k' el x m7 (h.mono (fun j D=>by rw[hS.get j oM,e7.get j oM]) lR)) i3 m8;have n3:=d6.next;have a3:=fd X;have l3:=aV X;obtain⟨H4,l5,n4,k7,e4⟩:=pushP H3 (bC z5 1) (bC J 1);have o8:splice z5 0 J=J:=w7 _ _ (by rw[l3];rfl);have k4:∀j,j<H2.next->H4.get j=H2.get j:=fun j D=>by rw[e4.get j oM,d6.get j D]
  have g5:H4.get E=cE R8 1:=(k4 _ j0).trans g3;have g6:=(k4 nb (hG nb h0).2.1).trans e9;have h3:t7 H4 (E+1) 3 (QR H lo K false) w1 s.paths:=U.same fun b S=>k4 b (U.lt S).2;have j3:el.all oC=true:=by
   cases K with
   |zero=>exact hR.elim
   |succ k=>obtain⟨_,_,_,_,rfl,_⟩:=hR.path;rfl
  have k0:∀Hx:d9,bsA prog (some 25) Hx 1 [(0,.agg el.toArray)]=some (sL Hx.next 1 1,Hx.push (bC el 3)):=fun Hx=>by
   cases K with
   |zero=>exact hR.elim
   |succ k=>obtain⟨_,_,_,_,rfl,_⟩:=hR.path;simp only[C7,X8,C8];rfl
  obtain⟨u1,p7,H5,m0,h8,b6,a1⟩:=h3.push1F (P:=prog) (t:=22) (cs:=el) (a:=x) (by exact jL.2.2.2.2.2.2) X8.1 X8.2.1 X8.2.2.1 oM oM hR.len hR oM oM;have n5:=a1.next;have f1:∀j,j<=E->¬j9 w1 j/\¬j9 w2 j/\¬j9 w3 j:=fun j D=>⟨fun q=>by have:=U.lt q;omega,fun q=>by have:=O.lt q;omega,fun q=>by have:=I.lt q;omega⟩
  have k8:H5.get E=cE R8 1:=(a1.but E oM (f1 E lR).1).trans g5;have l4:(H4.push (bC el 3)).get nb=_:=(j6 (oN (hG nb h0))).trans g6;obtain⟨a6,b7⟩:=eY (u1::w2::w3::ms);obtain⟨ua,uc,g0⟩:=b6.slice;have n2:Value.oneCell' u1=true:=by rw[g0];rfl
  have k2:u1.cells.toList=[u1]:=by rw[g0];rfl
  have o5:splice R8 0 [u1]=a6:=by rw[c9,b7];rfl
  have la:a6.length=8:=by rw[b7];simp [f0]
  have o3:a6[1]?=some w2:=by rw[b7];rfl
  obtain⟨H6,c3⟩:=eY (H5.put E (bC a6 1));have n6:H6.next=H5.next:=by rw[c3,j5]
  have g7:H6.get E=cE a6 1:=by rw[c3];exact i8 oM
  have c7:∀j,j<H4.next->¬j9 w1 j->j≠E->H6.get j=H4.get j:=fun j D h1 h2=>by rw[c3,i9 (fun q=>h2 q.symm)];exact a1.but j D h1
  have g8:H6.get H3.next=cE J 1:=(c7 _ oM (fun q=>by have:=U.lt q;omega) oM).trans k7;have n1:ldC (some true) (some 5) 0 J=some (.agg J.toArray):=by obtain⟨_,_,_,_,rfl,_⟩:=E1 X;rfl
  obtain⟨G2,c0⟩:=eY (fun j=>G j\/(H2.next<=j/\j<H3.next):Nat->Prop);have b5:∀j,G2 j->H6.get j=H3.get j/\j≠E/\j<H3.next/\¬j9 w1 j/\¬j9 w2 j/\¬j9 w3 j:=fun j D=>by
   rw[c0]at D;rcases D with D|D
   .have:=hG j D;exact⟨by rw[c7 j oM this.2.2.2.1 this.2.2.1,e4.get j oM],this.2.2.1,oM,this.2.2.2⟩
   .have e:¬j9 w1 j/\¬j9 w2 j/\¬j9 w3 j:=⟨fun q=>by have:=U.lt q;omega,fun q=>by have:=O.lt q;omega,fun q=>by have:=I.lt q;omega⟩
    exact⟨by rw[c7 j oM e.1 oM,e4.get j oM],oM,oM,e⟩
  have e8:PrF H6 G2 Rt J (C0 x):=X.mono (fun j D=>(b5 j (by rw[c0];exact .inr D)).1) (fun j D=>by rw[c0];exact .inr D) iF;have d0:∀j,G j->H6.get j=H2.get j:=fun j D=>by rw[(b5 j (by rw[c0];exact .inl D)).1,d6.get j (hG j D).2.1]
  have a5:∀j,G j->G2 j:=fun j D=>by rw[c0];exact .inl D
  have h4:t7 H6 (E+1) 5 (PrF H6 G2 Rt) w2 s.progs:=(O.same (H':=H6) fun b S=>by have:=O.lt S;rw[c7 b oM (fun q=>(d1 b q).1 S) oM,k4 b this.2]).imp fun cs p h=>h.mono d0 a5 iF;obtain⟨u2,p8,H7,m1,h9,a4,a2⟩:=h4.push1F (P:=prog) (t:=28) (cs:=J) (a:=C0 x) (by exact NP.2.2.2.2.2.2) mK.1 mK.2.1 mK.2.2.1 oM oM l3 e8 oM oM;have n7:=a2.next;have j4:∀Hx:d9,bsA prog (some 32) Hx 1 [(0,.agg J.toArray)]=some (sL Hx.next 1 1,Hx.push (bC J 5)):=fun Hx=>by
   obtain⟨_,_,_,_,rfl,_⟩:=E1 X;simp only[C7,mK,C8];rfl
  have k9:H7.get E=cE a6 1:=(a2.but E oM (f1 E lR).2.1).trans g7;obtain⟨a7,b8⟩:=eY (u1::u2::w3::ms);obtain⟨ub,s1,g1⟩:=a4.slice;have o0:Value.oneCell' u2=true:=by rw[g1];rfl
  have k3:u2.cells.toList=[u2]:=by rw[g1];rfl
  have o6:splice a6 1 [u2]=a7:=by rw[b7,b8];rfl
  have lb:a7.length=8:=by rw[b8];simp [f0]
  have o4:a7[2]?=some w3:=by rw[b8];rfl
  obtain⟨H8,c4⟩:=eY (H7.put E (bC a7 1));have n8:H8.next=H7.next:=by rw[c4,j5]
  have g9:H8.get E=cE a7 1:=by rw[c4];exact i8 oM
  have d5:∀j,j<H6.next->¬j9 w2 j->j≠E->H8.get j=H6.get j:=fun j D h1 h2=>by rw[c4,i9 (fun q=>h2 q.symm)];exact a2.but j D h1
  have h5:t7 H8 (E+1) 1 (R1 inE) w3 s.base:=I.same (H':=H8) fun b S=>by
   have:=I.lt S;rw[d5 b oM (fun q=>d2 b q S) oM,c7 b oM (fun q=>(d1 b q).2 S) oM,k4 b this.2]
  obtain⟨u3,p9,H9,m2,i0,c8,a8⟩:=h5.push1F (P:=prog) (t:=29) (cs:=inE (y9 s.progs)) (a:=y9 s.progs) (by exact yL.2.2.2.2.2.2) ty3.1 ty3.2.1 ty3.2.2.1 oM oM rfl rfl oM oM;have n9:=a8.next;have l1:H9.get E=cE a7 1:=(a8.but E oM (f1 E lR).2.2).trans g9;obtain⟨r9,p4,g2⟩:=c8.slice;have o1:Value.oneCell' u3=true:=by rw[g2];rfl
  have k5:u3.cells.toList=[u3]:=by rw[g2];rfl
  have o7:splice a7 2 [u3]=u1::u2::u3::ms:=by rw[b8];rfl
  obtain⟨c6,W⟩:=eY (H9.put E (bC (u1::u2::u3::ms) 1));have r8:c6.next=H9.next:=by rw[W,j5]
  have b4:∀j,j<H8.next->¬j9 w3 j->j≠E->c6.get j=H8.get j:=fun j D h1 h2=>by rw[W,i9 (fun q=>h2 q.symm)];exact a8.but j D h1
  have g4:c6.get H3.next=cE J 1:=by
   rw[b4 _ oM (fun q=>by have:=I.lt q;omega) oM,d5 _ oM (fun q=>by have:=O.lt q;omega) oM];exact g8
  have k1:J[0]?=some (.int .i64 (C0 x).st):=by obtain⟨_,_,_,_,rfl,_⟩:=E1 X;rfl
  refine J30 f3 f4 f5 (aI f6 b) (aI g3 b1) (aI e9 nt) (aI e5 a9) (aI b9 m5) (aI h7 a3) (aI l3 o8) (aI l5.symm g5) (aI o2 g6) (aI l4 k0) (aI m0 h8) (aI k8 l8) (aI n2 k2) (aI o5 c3.symm) (aI g7 o3) (aI g8 n1) (aI j4 m1) (aI h9 k9) (aI la o0) (aI k3 o6) (aI c4.symm g9) (aI o4 m2) (aI i0 l1) (aI lb o1) (aI k5 o7) (aI W.symm g4) (aI k1 @wrap_small) ?_;have e6:∀j,G2 j->c6.get j=H6.get j:=fun j D=>by
   obtain⟨q1,q2,q3,q4,q5,q6⟩:=b5 j D;rw[b4 j oM q6 q2,d5 j oM q5 q2]
  have p0:∀{w u:Value}{Ha Hb:d9}{lo:Nat},X7 lo w Ha u Hb->∀b,j9 u b->j9 w b\/Ha.next<=b:=fun h=>h.new;refine i6 (kk-1) oM ⟨i+1,⟨s.paths++[x],s.progs++[C0 x],s.base++[y9 s.progs],s.main⟩,u1,u2,u3,G2,oM,oM,by simp;omega,by simp [j1],by simp [h6],by show 0<=y9 (s.progs++[C0 x]);rw[X0];omega,by show y9 (s.progs++[C0 x])<=_;rw[X0];omega,f2,f3,f4,by show Env.get _ 5=iV (y9 (s.progs++[C0 x]));rw[X0];rfl,rfl,by rw[W];exact i8 oM,?_,?_,?_,?_,?_,?_,?_,?_,?_,fu⟩
  .exact c5.mono (fun j D=>by rw[e6 j (a5 j D),d0 j D]) a5 iF
  .exact d8.mono (fun j D=>by rw[e6 j (a5 j D),d0 j D]) a5 iF
  .refine b6.same fun b S=>?_;have h1:=b6.lt S;have h2:¬j9 w2 b/\¬j9 w3 b:=by
    rcases a1.new b S with q|q
    .exact d1 b q
    .exact⟨fun q=>by have:=O.lt q;omega,fun q=>by have:=I.lt q;omega⟩
   rw[b4 b oM h2.2 oM,d5 b oM h2.1 oM,c3,i9 oM]
  .refine(a4.same (H':=c6) fun b S=>?_).imp fun cs p h=>h.mono e6 (fun _ h=>h) iF;have h1:=a4.lt S;have h2:¬j9 w3 b:=by
    rcases a2.new b S with q|q
    .exact d2 b q
    .exact fun q=>oN (I.lt q)
   rw[b4 b oM h2 oM,c4,i9 oM]
  .refine c8.same fun b S=>?_;have h1:=c8.lt S;rw[W,i9 oM]
  .intro j D;obtain⟨q1,q2,q3,q4,q5,q6⟩:=b5 j D;have i1:H.next+2<=j:=by
    rw[c0]at D;rcases D with D|D
    .exact(hG j D).1
    .omega
   refine⟨i1,oM,q2,fun q=>?_,fun q=>?_,fun q=>?_⟩
   .rcases a1.new j q with q|q
    .exact q4 q
    .omega
   .rcases a2.new j q with q|q
    .exact q5 q
    .omega
   .rcases a8.new j q with q|q
    .exact q6 q
    .omega
  .intro j D;have h1:=b6.lt D;refine⟨fun q=>?_,fun q=>?_⟩
   .have h2:=a4.lt q;rcases a2.new j q with q|q
    .have:=O.lt q;rcases a1.new j D with r|r
     .exact(d1 j r).1 q
     .omega
    .omega
   .rcases a8.new j q with q|q
    .have:=I.lt q;rcases a1.new j D with r|r
     .exact(d1 j r).2 q
     .omega
    .omega
  .intro j D q;have h1:=a4.lt D;rcases a8.new j q with q|q
   .have:=I.lt q;rcases a2.new j D with r|r
    .exact d2 j r q
    .omega
   .omega
  .refine((((((hS.trans (d6.weaken oM)).trans (e4.weaken oM)).trans (a1.stay.weaken oM)).trans ?_).trans (a2.stay.weaken oM)).trans ?_).trans ((a8.stay.weaken oM).trans ?_)
   .rw[c3];exact i4.put oM
   .rw[c4];exact i4.put oM
   .rw[W];exact i4.put oM
 .rw[b2]at b9;have b3:ni s x=s:=by rw[ni,b2];rfl
  rw[b3]at fu;refine J12 f3 f4 f6 b g3 b1 e9 nt e5 a9 b9 @wrap_small ?_;exact i6 (kk-1) oM ⟨i+1,s,w1,w2,w3,G,oM,oM,oM,j1,h6,m6,oM,f2,f3,f4,f5,rfl,by rw[<-c9];exact g3,c5,d8,U,O,I,hG,d1,d2,hS,fu⟩
theorem gM:∀(l:List Q)(F:Q->List Q),(∀x∈l,(F x).length+1<=nQ x)->(l.flatMap F).length+l.length<=nL l
 |[],F,_=>by simp [nL]
 |x::l,F,h=>by
  have z:=h x sM;have D:=gM l F fun y u=>h y (by simp [u]);rw[nL,List.flatMap_cons,List.length_append,List.length_cons];omega
theorem iK:∀(l:List Q)(x:Q),x∈l->nQ x<=nL l
 |y::l,x,h=>by
  rw[nL];rcases List.mem_cons.1 h with rfl|h
  .omega
  .have:=iK l x h;omega
theorem bH:∀(n:Nat)(f:Bool)(q:Q),nQ q<=n->OkD f q->(inQ f q).length+1<=nQ q/\∀x∈inQ f q,OkD false x/\nQ x<=nQ q:=by
 intro n;induction n with
 |zero=>intro f q h;have:=dE q;omega
 |succ n O=>
  intro f q h X;have hq:=dE q;obtain⟨I,D,_⟩:=X.parts;have ia:∀g,(∀x∈q.a,OkD g x)->(inL g q.a).length+q.a.length<=nL q.a/\∀x∈inL g q.a,OkD false x/\nQ x<=nL q.a:=by
   intro g E;have e:∀x∈q.a,nQ x<=n:=fun x u=>oN (iK _ _ u);rw[al1];refine⟨gM _ _ fun x u=>(O g x (e x u) (E x u)).1,fun x u=>?_⟩;obtain⟨y,z,u⟩:=List.mem_flatMap.1 u;have:=(O g y (e y z) (E y z)).2 x u;have W:=iK _ _ z;exact⟨this.1,oM⟩
  have U:∀g,(∀x∈q.b,OkD g x)->(inL g q.b).length+q.b.length<=nL q.b/\∀x∈inL g q.b,OkD false x/\nQ x<=nL q.b:=by
   intro g E;have e:∀x∈q.b,nQ x<=n:=fun x u=>oN (iK _ _ u);rw[al1];refine⟨gM _ _ fun x u=>(O g x (e x u) (E x u)).1,fun x u=>?_⟩;obtain⟨y,z,u⟩:=List.mem_flatMap.1 u;have:=(O g y (e y z) (E y z)).2 x u;have W:=iK _ _ z;exact⟨this.1,oM⟩
  cases f
  .rw[kN];have J:=ia false I;have S:=U true D;refine⟨by rw[List.length_append];omega,fun x u=>?_⟩;rcases List.mem_append.1 u with u|u
   .have:=J.2 x u;exact⟨this.1,oM⟩
   .have:=S.2 x u;exact⟨this.1,oM⟩
  .rw[fI];have J:=ia true I;have S:=U false D;split
   .refine⟨by simp only[List.length_append];omega,fun x u=>?_⟩;rcases List.mem_append.1 u with u|u
    .have:=J.2 x u;exact⟨this.1,oM⟩
    .rcases List.mem_append.1 u with u|u
     .have:=S.2 x u;exact⟨this.1,oM⟩
     .have:=iK _ _ u;exact⟨D x u,oM⟩
   .rw[List.append_nil];refine⟨oM,fun x u=>?_⟩;have:=J.2 x u;exact⟨this.1,oM⟩
def sB(H:d9)(Rp Rt:LV->Q->Prop)(s:StD)(w:Value)(H1:d9):Prop:=∃cs',w= .agg cs'.toArray/\StF H1 (fun j=>H.next<=j/\j<H1.next) Rp Rt cs' s/\i4 H.next H H1
theorem od{H H':d9}{I J:LV->Q->Prop}{cs':LV}{s:StD}(hp:StF H' (fun j=>H.next<=j/\j<H'.next) I J cs' s) (hS:i4 H.next H H') (hl:H.next<=H'.low) {c:Bool} (D:c=true->cs'.all na0=true):
  Ret (some (br c (.agg cs'.toArray,none) (.agg cs'.toArray,some ⟨H'.bs,min H.low H'.low⟩))) H (sB H I J s):=by
 obtain⟨X,E,v3,ms,rfl,O,y,S,ve,vt,rfl,U,W⟩:=hp;refine ce (fun u=>?_) ⟨_,rfl,⟨X,E,v3,_,rfl,O,y,S,ve,vt,rfl,U,W⟩,hS.ret hl⟩;have u:=D u;simp only[List.cons_append,List.nil_append,List.all_cons,Bool.and_eq_true]at u;have n2:s.progs=[]:=by
  rcases y with⟨_,h⟩|⟨b,o,c,z,_⟩
  .exact h
  .rw[z]at u;simp [na0]at u
 have e2:E=nS:=by
  rcases y with⟨h,_⟩|⟨b,o,c,z,_⟩
  .exact h
  .rw[z]at u;simp [na0]at u
 exact⟨_,rfl,⟨X,E,v3,_,rfl,bX O u.1,.inl ⟨e2,n2⟩,bX S u.2.2.1,ve,vt,rfl,bX U u.2.2.2.2.2.2.1,bX W u.2.2.2.2.2.2.2.1⟩,i4.refl _ _⟩
abbrev z8:LV:=[nS,nS,nS,iV 0,iV 0,iV 0,nS,nS]
theorem yu(K:Nat)(H:d9)(lo:Nat)(Rt:LV->Q->Prop)(cs:LV)(q:Q)(d6:lo<=H.next)(hr:QR H lo K false cs q)(b5:∀k' el x,k'<=K->QR H lo k' true el x->Rt el x) (b1:OkD false q) (f1:nQ q<=1000):
  Ret (CL prog O8 36 [.agg cs.toArray] H) H (sB H (QR H lo K false) Rt (D0 q)):=by
 have a0:cs.all oC=true:=by
  cases K with
  |zero=>exact hr.elim
  |succ k=>obtain⟨_,_,_,_,rfl,_⟩:=hr.path;rfl
 have e5:ldC (some true) (some 3) 0 cs=some (.agg cs.toArray):=by
  cases K with
  |zero=>exact hr.elim
  |succ k=>obtain⟨_,_,_,_,rfl,_⟩:=hr.path;rfl
 obtain⟨U,J⟩:=eY ((d9.push ⟨H.bs,H.next⟩ (bC cs 1)).push (bC z8 1));have n0:(d9.push ⟨H.bs,H.next⟩ (bC cs 1)).next=H.next+1:=by rw[i5];rfl
 have hS:i4 H.next H U:=by rw[J];exact(i4.first H _).trans (i4.push oM)
 have g1:U.get H.next=cE cs 1:=by rw[J,j6 oM];exact i7
 have g2:U.get (H.next+1)=cE z8 1:=by rw[J];exact R2 oM
 have b8:H.next<=U.low:=by rw[J,O7,O7];exact lR
 have n1:U.next=H.next+2:=by rw[J,i5,n0]
 obtain⟨v3,g3,H3,d1,b6,ms,rfl,a8,a4⟩:=ju K K oM U lo Rt cs q oM (hr.mono (fun j y=>hS.get j oM) lR) (fun k' el x d3 h=>b5 k' el x d3 (h.mono (fun j y=>(hS.get j oM).symm) lR)) b1 oM;have n3:=a4.next;have a3:=fd a8;have l3:=aV a8;obtain⟨ea,ec,ta,tc,c0,he,ht⟩:=E1 a8;obtain⟨E,I⟩:=eY (nS::nS::nS::ms:LV);have e7:splice z8 3 ms=E:=by rw[I,c0];rfl
 have a9:E.length=8:=by rw[I];simp [l3]
 have b2:E.all oC=true:=by rw[I];simp only[List.all_cons,a3];rfl
 obtain⟨H4,d0,n4,c5,s4⟩:=pushP H3 (bC z8 1) (bC E 1);have c6:H4.get H.next=cE cs 1:=by rw[s4.get _ oM,a4.get _ oM];exact g1
 have e9:splice z8 0 E=E:=w7 _ _ (by rw[a9];rfl);have k4:∀j,j<H.next->H4.get j=H.get j:=fun j y=>by rw[s4.get j oM,a4.get j oM,hS.get j y]
 obtain⟨g5,b9⟩:=bH _ false q lR b1;obtain⟨v5,g4,H5,d2,b7,b4,a5⟩:=(MS K).1 H4 lo cs q oM (hr.mono (fun j y=>k4 j oM) lR) oM b1;have n5:=a5.next;rw[j8 ab4 rfl _ sM];refine J16 a0 J.symm g1 e5 d1 b6 l3 a3 e7 a9 b2 e9 d0.symm c6 d2 b7 ?_;have c3:i4 U.next U H5:=(a4.trans (s4.weaken oM)).trans (a5.weaken oM);have g0:H5.get (H.next+1)=cE z8 1:=(c3.get _ oM).trans g2;have c7:H5.get H3.next=cE E 1:=(a5.get _ oM).trans c5;have f0:∀cs a,QR H4 lo K false cs a->QR H lo K false cs a:=fun _ _ h=>h.mono (fun j y=>(k4 j oM).symm) lR;obtain⟨G,hG⟩:=eY (fun j=>(U.next<=j/\j<H3.next)\/(H4.next<=j/\j<H5.next):Nat->Prop);have d4:SlF H5 G 3 (QR H lo K false) v5 (inQ false q):=(b4.frz fun b S=>by rw[hG];exact .inr (b4.lt S)).mono (fun _ _=>rfl) (fun _ h=>h) f0;have d8:PrF H5 G Rt ms (C0 q):=a8.mono (fun j y=>by rw[a5.get j oM,s4.get j oM]) (fun j y=>by rw[hG];exact .inl y) iF;have b0:=uN K H lo H.next H3.next d6 rfl oM Rt b5 v5 (inQ false q) oM (fun x hx=>by have:=b9 x hx;exact⟨this.1,oM⟩) ms (bC z8 1) U hS g2 (D0 q) (inQ false q).length;refine l9 (F:=fun z=>Ret (u5 _ _ _ (u7 (inBlock 0 z) _)) _ _) (b0 _ _ ⟨0,⟨[],[],[],C0 q⟩,nS,nS,nS,G,rfl,oM,by simp,rfl,rfl,by simp [y9],by simp [y9],rfl,rfl,rfl,rfl,rfl,by rw[<-I];exact c7,d8,d4,t7.nil,t7.nil,t7.nil,fun j y=>?_,fun j y=>(A9 j y).elim,fun j y=>(A9 j y).elim,c3.weaken oM,rfl⟩) ?_
 .rw[hG]at y;refine⟨oM,oM,oM,A9 j,A9 j,A9 j⟩
 rintro o e' H6 ⟨ho,f2,f3,w1,w2,w3,G',b3,e4,X,a1,a2,W,a7⟩;have n6:=a7.next;have c8:H6.get (H.next+1)=cE z8 1:=(a7.get _ oM).trans g2;obtain⟨ra,rc,e1⟩:=X.slice;obtain⟨rb,rd,e2⟩:=a1.slice;obtain⟨re,rf,e3⟩:=a2.slice;obtain⟨u,D⟩:=eY (w1::w2::w3::ms:LV);rw[<-D]at b3;have e6:ldC (some true) (some 8) 0 u=some (.agg u.toArray):=by rw[D,e1,e2,e3,c0];rfl
 have a6:u.all oC=true:=by rw[D,e1,e2,e3];simp only[List.all_cons,a3];rfl
 have l6:u.length=8:=by rw[D];simp [l3]
 have e8:splice z8 0 u=u:=w7 _ _ (by rw[l6];rfl);obtain⟨H7,O⟩:=eY (H6.put (H.next+1) (bC u 1));have n7:H7.next=H6.next:=by rw[O,j5]
 have c9:H7.get (H.next+1)=cE u 1:=by rw[O];exact i8 oM
 have s7:i4 H.next H H7:=by rw[O];exact(hS.trans (a7.weaken oM)).trans (i4.put oM)
 have d5:H.next<=H7.low:=by rw[O];exact((a7.weaken oM).trans (i4.put oM)).low b8
 have k7:∀j,H.next+2<=j->H7.get j=H6.get j:=fun j y=>by rw[O,i9 oM]
 have c4:StF H7 (fun j=>H.next<=j/\j<H7.next) (QR H lo K false) Rt u (D0 q):=by
  refine⟨w1,w2,w3,ms,D,?_,?_,?_,?_⟩
  .exact(X.same fun b S=>k7 b (oN (X.lt S))).frz fun b S=>oN (X.lt S)
  .exact(((a1.same fun b S=>k7 b (oN (a1.lt S))).imp fun cs p h=>h.mono (fun j y=>k7 j (W j y).1) (fun j y=>by have:=W j y;omega) iF)).frz fun b S=>oN (a1.lt S)
  .exact(a2.same fun b S=>k7 b (oN (a2.lt S))).frz fun b S=>oN (a2.lt S)
  .exact e4.mono (fun j y=>k7 j (W j y).1) (fun j y=>by have:=W j y;omega) iF
 refine J11 ho f2 f3 b3 e6 c8 a6 l6 e8 O.symm c9 ?_;exact od c4 s7 d5 (fun h=>h)
end Go.Proofs.YtofbhlhamfkljaaGreatDoor.Ve
namespace Go.Proofs.YtofbhlhamfkljaaGreatDoor.Ve
open Go Go.RowKit
theorem X7.refl(lo:Nat)(w:Value)(H:d9):X7 lo w H w H:=⟨i4.refl _ _,fun _ _ _=>rfl,fun _ h=> .inl h⟩
theorem X7.trans{lo:Nat}{w w1 w2:Value}{H u H2:d9}(h:X7 lo w H w1 u)(k:X7 lo w1 u w2 H2):X7 lo w H w2 H2:=by
 have I:=h.next;refine⟨h.stay.trans k.stay,fun j D y=>?_,fun b z=>?_⟩
 .rw[k.but j oM (fun q=>by rcases h.new j q with r|r;exact y r;omega),h.but j D y]
 .rcases k.new b z with r|r
  .exact h.new b r
  .exact .inr oM
theorem X7.of{lo:Nat}(w:Value){H y:d9}(h:i4 H.next H y)(u:lo<=H.next):X7 lo w H w y:=⟨h.weaken u,fun j z _=>h.get j z,fun _ h=> .inl h⟩
theorem X7.weaken{lo u:Nat}{w v:Value}{H y:d9}(h:X7 lo w H v y)(k:u<=lo):X7 u w H v y:=⟨h.stay.weaken k,h.but,h.new⟩
def mN{α:Type}(E:d9->(Nat->Prop)->LV->α->Prop):Prop:=∀(H H':d9)(G G':Nat->Prop)(cs:LV)(a:α),E H G cs a->(∀j,G j->H'.get j=H.get j)->(∀j,G j->G' j)->E H' G' cs a
abbrev pls(G:Nat->Prop)(H H3:d9)(j:Nat):Prop:=G j\/(H.next<=j/\j<H3.next)
structure Buf{α:Type}(sz:Nat)(E:d9->(Nat->Prop)->LV->α->Prop)(lo:Nat)(G0:Nat->Prop)(H0:d9)(w0:Value)(G:Nat->Prop)(H:d9)(w:Value)(l:List α):Prop where
 own:t7 H lo sz (E H G) w l
 up:∀j,G0 j->G j
 new:∀j,G j->G0 j\/H0.next<=j
 lt:∀j,G j->j<H.next/\¬j9 w j
 gr:X7 lo w0 H0 w H
section
variable{α:Type}{sz:Nat}{E:d9->(Nat->Prop)->List Value->α->Prop}{lo:Nat}{G0 G:Nat->Prop}{H0 H H3:d9}{w0 w:Value}{l l2:List α}
theorem Buf.next(B:Buf sz E lo G0 H0 w0 G H w l):H0.next<=H.next:=B.gr.next
theorem Buf.get(B:Buf sz E lo G0 H0 w0 G H w l)(h:∀j,G0 j->j<H0.next/\¬j9 w0 j) (j:Nat) (u:G0 j):H.get j=H0.get j:=B.gr.but j (h j u).1 (h j u).2
theorem Buf.stay(D:mN E)(B:Buf sz E lo G0 H0 w0 G H w l)(y:i4 H.next H H3)(z:lo<=H.next):Buf sz E lo G0 H0 w0 (pls G H H3) H3 w l:=by
 have J:=y.next;have I:=B.next;refine⟨(B.own.keep y).imp fun cs a h=>D _ _ _ _ _ _ h (fun j u=>y.get j (B.lt j u).1) (fun j u=> .inl u),fun j u=> .inl (B.up j u),fun j u=>?_,fun j u=>?_,B.gr.trans (X7.of w y z)⟩
 .rcases u with u|u
  .exact B.new j u
  .exact .inr oM
 .rcases u with u|u
  .have:=B.lt j u;exact⟨oM,this.2⟩
  .exact⟨u.2,fun q=>by have:=B.own.lt q;omega⟩
theorem Buf.grown(I:mN E){z:Value}{H':d9}{D:List α}(B:Buf sz E lo G0 H0 w0 G H w l)(J:t7 H' lo sz (E H G) z D)(y:X7 lo w H z H'):Buf sz E lo G0 H0 w0 G H' z D:=by
 have O:=y.next;refine⟨J.imp fun cs a h=>I _ _ _ _ _ _ h (fun j u=>y.but j (B.lt j u).1 (B.lt j u).2) (fun j u=>u),B.up,B.new,fun j u=>⟨by have:=B.lt j u;omega,fun q=>?_⟩,B.gr.trans y⟩;rcases y.new j q with r|r
 .exact(B.lt j u).2 r
 .have:=B.lt j u;omega
theorem Buf.push{P:Program}{t e:TypeId}{bytes:Nat}{z cs:LV}{a:α}(J:mN E)(W:P.underlying t=some (.slice e))(hs:z9 P e=some sz)(S:A7 P e=some bytes)(X:B8 P e=some z)(D:0<sz)(I:0<bytes)
  (B:Buf sz E lo G0 H0 w0 G H w l) (h:cs.length=sz) (O:E H G cs a) (U:(l.length+1)*bytes<=140737488355328) (u:lo<=H.next):
  Ret (fb P (H.push (.cells cs true sz)) [t,t] w (.slice (some ⟨H.next,0,none⟩) 1 1)) (H.push (.cells cs true sz)) fun v' H'=>Buf sz E lo G0 H0 w0 G H' v' (l++[a]):=by
 obtain⟨v',y,H',r1,r2,r3,r4⟩:=B.own.push1F W hs S X D I h O U u;exact⟨v',y,H',r1,r2,B.grown J r3 r4⟩
theorem Buf.append{P:Program}{t e:TypeId}{bytes:Nat}{z:LV}{x:Value}(I:mN E)(U:P.underlying t=some (.slice e))(hs:z9 P e=some sz)(J:A7 P e=some bytes)(X:B8 P e=some z)(y:0<sz)(D:0<bytes)
  (B:Buf sz E lo G0 H0 w0 G H w l) (W:SlF H G sz (E H G) x l2) (S:(l.length+l2.length)*bytes<=140737488355328) (h:lo<=H.next):
  Ret (fb P H [t,t] w x) H fun v' H'=>Buf sz E lo G0 H0 w0 G H' v' (l++l2):=by
 obtain⟨v',u,H',r1,r2,r3,r4⟩:=B.own.appendF U hs J X y D (W.sl fun j O=>(B.lt j O).1) S h;exact⟨v',u,H',r1,r2,B.grown I r3 r4⟩
theorem Buf.frz(u:mN E)(B:Buf sz E lo G0 H0 w0 G H w l):SlF H (fun j=>G j\/j9 w j) sz (E H (fun j=>G j\/j9 w j)) w l:=
 (B.own.imp fun cs a h=>u _ _ _ _ _ _ h (fun _ _=>rfl) fun j z=> .inl z).frz fun b y=> .inr y
theorem Buf.start(u:∀j,G0 j->j<H0.next/\¬j9 w0 j) (y:t7 H0 lo sz (E H0 G0) w0 l):Buf sz E lo G0 H0 w0 G0 H0 w0 l:=⟨y,fun _ h=>h,fun _ h=> .inl h,u,X7.refl _ _ _⟩
theorem Buf.trans{G1:Nat->Prop}{u:d9}{w1:Value}{y:List α}(B:Buf sz E lo G0 H0 w0 G H w l)(C:Buf sz E lo G H w G1 u w1 y):Buf sz E lo G0 H0 w0 G1 u w1 y:=by
 have z:=B.next;refine⟨C.own,fun j h=>C.up j (B.up j h),fun j h=>?_,C.lt,B.gr.trans C.gr⟩;rcases C.new j h with r|r
 .exact B.new j r
 .exact .inr oM
end
end Go.Proofs.YtofbhlhamfkljaaGreatDoor.Ve
namespace Go.Proofs.YtofbhlhamfkljaaGreatDoor.Ve
open Go Go.RowKit
open Go.Proofs.Tryz (prog)
abbrev NmQ:Type:=ByteArray×ByteArray
def atE(a:AtD):LV:=[.string a.space,.string a.loc,.string a.val]
def EvF(H:d9)(F:Nat->Prop)(cs:LV)(e:EvD):Prop:=∃v,cs=[iV e.kind,.string e.space,.string e.loc,v,.string e.text]/\SlF H F 3 (R1 atE) v e.attrs
theorem w9:mN EvF:=fun H H' G G' cs a h y u=>by obtain⟨v,h1,h2⟩:=h;exact⟨v,h1,h2.mono y u iF⟩
def atV(n:NmQ)(e:EvD)(v:ByteArray):EvD:={e with attrs:=e.attrs++[⟨n.1,n.2,v⟩]}
def rl(n:NmQ)(vs:List ByteArray)(e:EvD):List EvD:=e::vs.map (atV n e)
def az(n:NmQ)(vs:List ByteArray)(l:List EvD):List EvD:=l.flatMap (rl n vs)
def Q8(vs:List ByteArray):List ByteArray:=vs++[if V0 vs eB then dg (T7 vs) else eB]
def cU:List (NmQ×List ByteArray)->List EvD->Option (List EvD)
 |[],l=>some l
 |x::r,l=>if(az x.1 (Q8 x.2) l).length>24 then none else cU r (az x.1 (Q8 x.2) l)
def Y4(n:NmQ):EvD:=⟨1,n.1,n.2,[],eB⟩
def bZ(s:ByteArray):EvD:=⟨2,eB,eB,[],s⟩
def dm(s:SpD):List NmQ->List EvD->Option (List EvD)
 |[],acc=>some acc
 |n::r,acc=>match cU (s.attrs.zip s.vals) [Y4 n]with
  |none=>none
  |some l=>dm s r (acc++l)
def S8(s:SpD):Option (List EvD):=match dm s (s.names++[zNm (Q4 s.names)]) []with
 |none=>none
 |some l=>if(l++(s.texts++[dg (T7 s.texts)]).map bZ).length>24 then none else some (l++(s.texts++[dg (T7 s.texts)]).map bZ)
theorem ag3(I:Nat->Prop)(H0:d9)(lo b4:Nat)(w0:Value)(l6:lo<=H0.next)(S:∀j,I j->j<H0.next/\¬j9 w0 j) (v1 v3 v4:Value) (aa:Option Addr) (E:List NmQ) (ac:Nat) (a9:H0.get b4=cE [v1,.slice aa E.length ac,v3,v4] 1) (gG:I b4) (g2:SlF H0 I 2 (R1 nmE) (.slice aa E.length ac) E) (k:Nat) (hk:k<E.length) (n:NmQ) (hn:E[k]?=some n) (k5:E.length<=100000)
  (va:Option Addr) (vc:Nat) (X:List ByteArray) (g3:SlF H0 I 1 (R1 stE) (.slice va X.length vc) X) (l8:X.length<=100000) (la:Option Addr) (l:List EvD) (lc:Nat) (hl:SlF H0 I 5 (EvF H0 I) (.slice la l.length lc) l) (j:Nat) (e0:EvD) (D:l[j]?=some e0) (l5:l.length<=100000) (l1:e0.attrs.length<=100000) (p5 p6 p7:Value) (b7:List EvD) (j1:b7.length<=10000000):
  ∀kk e H2,(∃(i:Nat)(w:Value)(G:Nat->Prop)(es:List EvD),kk=X.length-i/\i<=X.length/\e.get 4=pT b4/\e.get 5=p5/\e.get 6=p6/\e.get 7=p7/\e.get 8= .slice la l.length lc/\e.get 9=iV k/\e.get 10= .slice va X.length vc/\e.get 11=w/\e.get 12=iV j/\e.get 13=iV i/\Buf 5 EvF lo I H0 w0 G H2 w es/\es++(X.drop i).map (atV n e0)=b7)->
  u9 (LE prog O8 (.loop FA) e H2) (fun o e H2=>o= .exit 6/\e.get 4=pT b4/\e.get 5=p5/\e.get 6=p6/\e.get 7=p7/\e.get 8= .slice la l.length lc/\e.get 9=iV k/\e.get 10= .slice va X.length vc/\e.get 12=iV j/\∃(w:Value)(G:Nat->Prop),e.get 11=w/\Buf 5 EvF lo I H0 w0 G H2 w b7):=by
 refine j7 _ _ ?_;rintro kk e H2 ⟨i,w,G,es,l3,hi,f4,f5,f6,f7,f8,f9,f10,f11,f12,f13,B,fu⟩;rcases b:decide ((i:Int)<X.length)with _|_
 .have f2:=dF b;have:X.drop i=[]:=dN oM;rw[this,List.map_nil,List.append_nil]at fu;subst fu;refine J3 f10 f13 b ?_;exact l7 ⟨rfl,f4,f5,f6,f7,f8,f9,f10,f12,w,G,f11,B⟩
 have f2:=dT b;have g1:j<l.length:=(gS D).1;have B0:=fun j D=>B.get S j D;have nx:=B.next;have d3:lo<=H2.next:=oM;obtain⟨v,nb,o,cs,own,k4,hx,hd,rfl,hF,hg,l4,j2,hc,rfl⟩:=g3.row (i:=i) oM;obtain⟨e',m0,ol,k1,j4,k3,g5,k9,rfl,e6,g0,j0,W,k7,e9⟩:=hl.row (i:=j) g1;obtain rfl:e0=e':=Option.some.inj (D.symm.trans g5);obtain⟨n',b6,oa,k0,j3,k2,g4,k8,rfl,b0,b3,i3,b5,k6,rfl⟩:=g2.row (i:=k) hk;obtain rfl:n=n':=Option.some.inj (hn.symm.trans g4);have g7:(i:Int).toNat=i:=tN i;have g8:(j:Int).toNat=j:=tN j;have g9:(k:Int).toNat=k:=tN k;rw[hd,List.map_cons,List.append_cons]at fu;obtain⟨av,rfl,d0⟩:=e9;obtain⟨b9,c0,rfl⟩:=d0.slice;obtain⟨u,z⟩:=eY ([iV e0.kind,.string e0.space,.string e0.loc,.slice b9 e0.attrs.length c0,.string e0.text]:LV);rw[<-z]at W;have e4:=(B0 _ e6).trans g0;have e3:u[3]?=some (.slice b9 e0.attrs.length c0):=by rw[z];rfl
 have d8:u.all oC=true:=by rw[z];rfl
 have d4:u.length=5:=by rw[z];rfl
 obtain⟨K0,e7,n0,a5,s0⟩:=pushP H2 (bC [iV 0,.string eB,.string eB,nS,.string eB] 1) (bC u 1);have b8:splice [iV 0,.string eB,.string eB,nS,.string eB] 0 u=u:=w7 _ _ (by rw[d4];rfl);obtain⟨K1,c7,n1,-,s1⟩:=pushE K0 (bC [] 3);have a1:∀j,I j->K0.get j=H0.get j:=fun j D=>by rw[s0.get j (oN (S j D)),B0 j D]
 have J:∀j,I j->K1.get j=H0.get j:=fun j D=>by rw[s1.get j (oN (S j D)),a1 j D]
 have e8:t7 K1 K0.next 3 (R1 atE) (sL K0.next 0 0) []:=by rw[c7];exact t7.fresh rfl lR D2.nil
 obtain⟨w1,h1,K2,f0,d1,c8,s2⟩:=e8.append (P:=prog) (t:=49) (n:=K1.next) (by exact yM.2.2.2.2.2.2) ik.1 ik.2.1 ik.2.2.1 oM oM (d0.mono (F':=(· <K1.next)) J (fun j D=>by have:=S j D;omega) iF) (by simp;omega) oM;have n2:=s2.next;have a8:∀j,I j->K2.get j=H0.get j:=fun j D=>by rw[s2.get j (oN (S j D)),J j D]
 obtain⟨w2,h2,K4,c9,a7,a4,b1⟩:=c8.push1F (P:=prog) (t:=49) (cs:=[.string n.1,.string n.2,.string v]) (a:=⟨n.1,n.2,v⟩) (by exact yM.2.2.2.2.2.2) ik.1 ik.2.1 ik.2.2.1 oM oM rfl rfl (by simp;omega) oM;have n4:=b1.next;obtain⟨K3,b2⟩:=eY (K2.push (bC [.string n.1,.string n.2,.string v] 3));rw[<-b2]at c9 a7;have a6:K1.get H2.next=cE u 1:=(s1.get _ oM).trans a5;have O:K2.get H2.next=cE u 1:=(s2.get _ oM).trans a6;have c4:K3.get H2.next=cE u 1:=by rw[b2,j6 oM];exact O
 have c5:K4.get H2.next=cE u 1:=(b1.but _ oM (fun q=>by have:=c8.lt q;omega)).trans O;have h7:=(a1 b4 gG).trans a9;have h8:=(J b4 gG).trans a9;have h9:=(a8 b4 gG).trans a9;have h3:=(a1 b6 b0).trans b3;have h4:=(J b6 b0).trans b3;have h5:=(a8 b6 b0).trans b3;have i0:=(a1 nb hF).trans hg;have i1:=(J nb hF).trans hg;have i2:=(a8 nb hF).trans hg;have c3:=hc 0 oM;rw[Nat.add_zero]at c3;obtain⟨a2,c2,a3⟩:=a4.slice;have e2:w2.cells.toList=[w2]:=by rw[a3];rfl
 have h0:Value.oneCell' w2=true:=by rw[a3];rfl
 obtain⟨h,y⟩:=eY ([iV e0.kind,.string e0.space,.string e0.loc,w2,.string e0.text]:LV);have d6:splice u 3 [w2]=h:=by rw[z,y];rfl
 have d5:h.length=5:=by rw[y];rfl
 have g6:ldC (some true) (some 5) 0 h=some (.agg h.toArray):=by rw[y,a3];rfl
 obtain⟨K5,U⟩:=eY (K4.put H2.next (bC h 1));have n5:K5.next=K4.next:=by rw[U,j5]
 have c6:K5.get H2.next=cE h 1:=by rw[U];exact i8 oM
 have s5:i4 H2.next H2 K5:=((s0.trans (s1.weaken oM)).trans (s2.weaken oM)).trans ((b1.stay.weaken oM).trans (by rw[U];exact i4.put oM));have B5:=B.stay w9 s5 d3;have e5:EvF K5 (pls G H2 K5) h (atV n e0 v):=⟨w2,y,((a4.same (H':=K5) fun b hb=>by have:=a4.lt hb;rw[U,i9 oM]).frz fun b hb=>by have:=a4.lt hb;exact .inr oM)⟩
 obtain⟨w6,h6,H6,f1,d2,B6⟩:=B5.push (P:=prog) (t:=35) w9 (by exact uT.2.2.2.2.2.2) aG.1 aG.2.1 aG.2.2.1 oM oM d5 e5 (by have:=congrArg List.length fu;simp at this;omega) oM;have n6:=B6.next;have e1:∀Hx:d9,bsA prog (some 51) Hx 1 [(0,.agg h.toArray)]=some (sL Hx.next 1 1,Hx.push (bC h 5)):=fun Hx=>by
  rw[y,a3];simp only[C7,aG,C8];rfl
 refine J30 f4 f8 f9 f10 f11 f12 f13 b e4 g7 (aI g8 g9) (aI W d8) (aI d4 b8) (aI e7.symm c7.symm) (aI a5 a6) (aI O c4) (aI c5 e3) (aI f0 d1) (aI h7 h8) (aI h9 h3) (aI h4 h5) (aI i0 i1) (aI i2 b5) (aI c3 b2.symm) (aI c9 a7) (aI e2 h0) (aI d6 U.symm) (aI c6 g6) (aI e1 f1) (aI d2 @wrap_small) ?_;exact i6 (kk-1) oM ⟨i+1,w6,_,es++[atV n e0 v],oM,oM,f4,f5,f6,f7,f8,f9,f10,rfl,f12,rfl,B6,fu⟩
theorem ag4(E:Nat->Prop)(H0:d9)(lo S:Nat)(w0:Value)(c9:lo<=H0.next)(X:∀j,E j->j<H0.next/\¬j9 w0 j) (v1 v3 v4:Value) (aa:Option Addr) (u:List NmQ) (ac:Nat) (a9:H0.get S=cE [v1,.slice aa u.length ac,v3,v4] 1) (gG:E S) (b7:SlF H0 E 2 (R1 nmE) (.slice aa u.length ac) u) (k:Nat) (hk:k<u.length) (n:NmQ) (hn:u[k]?=some n) (b2:u.length<=100000)
  (va:Option Addr) (vc:Nat) (I:List ByteArray) (b9:SlF H0 E 1 (R1 stE) (.slice va I.length vc) I) (b8:I.length<=100000) (la:Option Addr) (l:List EvD) (lc:Nat) (hl:SlF H0 E 5 (EvF H0 E) (.slice la l.length lc) l) (b6:l.length<=100000) (b5:∀x∈l,x.attrs.length<=100000) (p5 p6 p7:Value) (O:List EvD) (c4:O.length<=10000000):
  ∀kk e H2,(∃(j:Nat)(w:Value)(G:Nat->Prop)(W:List EvD),kk=l.length-j/\j<=l.length/\e.get 4=pT S/\e.get 5=p5/\e.get 6=p6/\e.get 7=p7/\e.get 8= .slice la l.length lc/\e.get 9=iV k/\e.get 10= .slice va I.length vc/\e.get 11=w/\e.get 12=iV j/\Buf 5 EvF lo E H0 w0 G H2 w W/\W++az n I (l.drop j)=O)->
  u9 (LE prog O8 (.loop FB) e H2) (fun o e H2=>o= .exit 4/\e.get 4=pT S/\e.get 5=p5/\e.get 6=p6/\e.get 7=p7/\e.get 9=iV k/\∃(w:Value)(G:Nat->Prop),e.get 11=w/\Buf 5 EvF lo E H0 w0 G H2 w O):=by
 refine j7 _ _ ?_;rintro kk e H2 ⟨j,w,G,W,c7,hi,f4,f5,f6,f7,f8,f9,f10,f11,f12,B,U⟩;rcases b:decide ((j:Int)<l.length)with _|_
 .have b3:=dF b;have:l.drop j=[]:=dN oM;rw[this,az,List.flatMap_nil,List.append_nil]at U;subst U;refine J3 f8 f12 b ?_;exact l7 ⟨rfl,f4,f5,f6,f7,f9,w,G,f11,B⟩
 have b3:=dT b;have B0:=fun j hj=>B.get X j hj;have nx:=B.next;obtain⟨e0,nb,o,cs,own,y,hx,hd,rfl,hF,hg,c8,a3,hc,hR⟩:=hl.row (i:=j) oM;have c3:(j:Int).toNat=j:=tN j;rw[hd,az,List.flatMap_cons,rl,List.cons_append,List.append_cons]at U;have g2:=(B0 _ hF).trans hg;have b0:EvF H2 G y e0:=w9 _ _ _ _ _ _ hR B0 B.up;obtain⟨av,J,a1⟩:=b0;obtain⟨c5,c6,a5⟩:=a1.slice;have c0:y.length=5:=by rw[J];rfl
 obtain⟨w1,h1,H3,b1,a2,B1⟩:=B.push (P:=prog) (t:=35) w9 (by exact uT.2.2.2.2.2.2) aG.1 aG.2.1 aG.2.2.1 oM oM c0 ⟨av,J,a1⟩ (by have:=congrArg List.length U;simp at this;omega) oM;have a4:∀Hx:d9,bsA prog (some 51) Hx 1 [(0,.agg y.toArray)]=some (sL Hx.next 1 1,Hx.push (bC y 5)):=fun Hx=>by
  rw[J,a5];simp only[C7,aG,C8];rfl
 have n1:=B1.gr.next;have G1:∀j,G j->j<H3.next/\¬j9 w1 j:=B1.lt;have D:=fun j(hj:E j)=>(B1.get X j hj)
 refine J10 f8 f11 f12 b g2 c3 a3 a4 b1 a2 ?_;refine l9 (F:=fun z=>u9 (u7 (inBlock 5 (inBlock 6 z)) _) _) (ag3 G H3 lo S w1 oM G1 v1 v3 v4 aa u ac ((D S gG).trans a9) (B.up _ gG) (b7.mono D B.up iF) k hk n hn b2 va vc I (b9.mono D B.up iF) b8 _ l lc (hl.mono D B.up (fun _ _ h=>w9 _ _ _ _ _ _ h D B.up)) j e0 hx b6 (b5 e0 (mG hx)) p5 p6 p7 (W++[e0]++I.map (atV n e0)) (by have:=congrArg List.length U;simp at this ⊢;omega) I.length _ _ ⟨0,w1,G,W++[e0],rfl,oM,f4,f5,f6,f7,f8,f9,f10,rfl,f12,rfl,Buf.start G1 B1.own,rfl⟩) ?_;rintro o' e' H4 ⟨ho,g4,g5,g6,g7,g8,g9,a6,a8,w4,G4,a7,B4⟩;refine J3 ho a8 @wrap_small ?_;exact i6 (kk-1) oM ⟨j+1,w4,G4,_,oM,oM,g4,g5,g6,g7,g8,g9,a6,a7,rfl,B1.trans B4,by rw[<-U,az];simp⟩
theorem iJ(n:NmQ)(h:List ByteArray):∀l:List EvD,(az n h l).length=l.length*(h.length+1)
 |[]=>by simp [az]
 |x::l=>by
  have:=iJ n h l;rw[az]at this ⊢;rw[List.flatMap_cons,List.length_append,this,rl,List.length_cons,List.length_map,List.length_cons,Nat.succ_mul];omega
theorem Bq(n:NmQ)(D:List ByteArray)(k:Nat)(l:List EvD)(h:∀x∈l,x.attrs.length<=k):∀x∈az n D l,x.attrs.length<=k+1:=by
 intro x u;rw[az]at u;obtain⟨y,z,u⟩:=List.mem_flatMap.1 u;have:=h y z;rw[rl,List.mem_cons]at u;rcases u with rfl|u
 .omega
 .obtain⟨v,_,rfl⟩:=List.mem_map.1 u;simp [atV];omega
theorem eO{α β:Type}:∀(a:List α)(b:List β)(k:Nat),(a.zip b).drop k=(a.drop k).zip (b.drop k)
 |a,b,0=>rfl
 |[],b,k+1=>by simp
 |x::a,[],k+1=>by simp
 |x::a,y::b,k+1=>by simpa using eO a b k
theorem ag5(J:Nat->Prop)(H0:d9)(b4:Nat)(I:∀j,J j->j<H0.next) (v1 v4:Value) (aa:Option Addr) (D:List NmQ) (ac:Nat) (ba:Option Addr) (vals:List (List ByteArray)) (bc:Nat) (h3:vals.length=D.length) (a4:H0.get b4=cE [v1,.slice aa D.length ac,.slice ba vals.length bc,v4] 1) (gG:J b4) (c7:SlF H0 J 2 (R1 nmE) (.slice aa D.length ac) D) (e8:SlF H0 J 1 (VlF H0 J) (.slice ba vals.length bc) vals) (i3:D.length<=1000) (e7:∀x∈vals,x.length<=10000)
  (p5 p6 p7:Value) (a6:Option (List EvD)):
  ∀kk e H2,(∃(k:Nat)(l:List EvD)(w8:Value)(G:Nat->Prop),kk=D.length-k/\k<=D.length/\e.get 4=pT b4/\e.get 5=p5/\e.get 6=p6/\e.get 7=p7/\e.get 8=w8/\e.get 9=iV k/\i4 H0.next H0 H2/\(∀j,J j->G j)/\(∀j,G j->J j\/H0.next<=j)/\(∀j,G j->j<H2.next)/\SlF H2 G 5 (EvF H2 G) w8 l/\l.length<=24/\(∀x∈l,x.attrs.length<=k)/\cU ((D.zip vals).drop k) l=a6)->
  u9 (LE prog O8 (.loop FC) e H2) (fun o e H2=>i4 H0.next H0 H2/\((o= .exit 2/\e.get 4=pT b4/\e.get 5=p5/\e.get 6=p6/\e.get 7=p7/\∃(l:List EvD)(w8:Value)(G:Nat->Prop),a6=some l/\l.length<=24/\e.get 8=w8/\(∀j,J j->G j)/\(∀j,G j->J j\/H0.next<=j)/\(∀j,G j->j<H2.next)/\SlF H2 G 5 (EvF H2 G) w8 l)\/(o= .ret/\a6=none/\e.get 2=nS/\e.get 3=iV 13))):=by
 refine j7 _ _ ?_;rintro kk e H2 ⟨k,l,w8,G,j2,hi,f4,f5,f6,f7,f8,f9,hS,b6,b7,a5,hl,c5,c4,fu⟩;have b5:=(hS.get b4 (I _ gG)).trans a4;rcases b:decide ((k:Int)<D.length)with _|_
 .have d5:=dF b;have:(D.zip vals).drop k=[]:=dN (by rw[List.length_zip];omega);rw[this,cU]at fu;refine J4 f4 f9 b5 b ?_;exact l7 ⟨hS,.inl ⟨rfl,f4,f5,f6,f7,l,w8,G,fu.symm,c5,f8,b6,b7,a5,hl⟩⟩
 have d5:=dT b;have j3:=hS.next;obtain⟨n,k0,oa,h8,h6,i0,e9,e1,rfl,i2,j1,h0,e5,j0,rfl⟩:=c7.row (i:=k) oM;obtain⟨E,g0,ov,h9,h7,i1,f0,e2,rfl,d1,e4,h4,e6,d8,⟨vv,rfl,c8⟩⟩:=e8.row (i:=k) oM;have g1:(k:Int).toNat=k:=tN k;have h5:=e7 E (mG f0);have e3:(D.zip vals).drop k=(n,E)::(D.zip vals).drop (k+1):=by
  rw[eO,e1,e2,List.zip_cons_cons,eO]
 rw[e3,cU]at fu
 dsimp only at fu
 have a9:=d8 0 oM;rw[Nat.add_zero]at a9;obtain⟨k1,k2,rfl⟩:=c8.slice;obtain⟨la,lc,rfl⟩:=hl.slice;obtain⟨K1,b9,n1,-,s1⟩:=pushE H2 (bC [] 1);have a2:∀j,J j->K1.get j=H0.get j:=fun j u=>by rw[s1.get j (oN (I j u)),hS.get j (I j u)]
 have d2:t7 K1 H2.next 1 (R1 stE) (sL H2.next 0 0) []:=by rw[b9];exact t7.fresh rfl lR D2.nil
 obtain⟨w1,h1,K2,d3,c0,W,s2⟩:=d2.append (P:=prog) (t:=97) (n:=K1.next) (by exact aH.2.2.2.2.2.2) ty9.1 ty9.2.1 ty9.2.2.1 oM oM (c8.mono (F':=(· <K1.next)) a2 (fun j u=>by have:=I j u;omega) iF) (by simp;omega) oM;have n2:=s2.next;rw[List.nil_append]at W;have O:=tw K2 K2.next w1 E eB lR W.sl oM;have c6:=gW K2 K2.next w1 E lR W.sl oM;rw[show(E.any fun y=>ci y eB)=V0 E eB from rfl]at O;obtain⟨x,hx⟩:∃x,x=if V0 E eB then dg (T7 E) else eB:=eX;obtain⟨w2,h2,S,d4,c3,X,b8⟩:=W.push1F (P:=prog) (t:=97) (cs:=[.string x]) (a:=x) (by exact aH.2.2.2.2.2.2) ty9.1 ty9.2.1 ty9.2.2.1 oM oM rfl rfl oM oM;rw[show E++[x]=Q8 E by rw[hx];rfl]at X;have n4:=b8.next;have s4:i4 H2.next H2 S:=(s1.trans s2).trans b8.stay;have f2:(Q8 E).length=E.length+1:=by simp [Q8]
 have d0:=(a2 b4 gG).trans a4;have g8:=(a2 g0 d1).trans e4;have j4:H2.next<=S.next:=oM;obtain⟨g2,g3,b0⟩:=X.slice;have lm:=iJ n (Q8 E) l;have f1:(az n (Q8 E) l).length<=10000000:=by
  rw[lm,f2];have:=Nat.mul_le_mul c5 (show E.length+1+1<=10002 from oM);omega
 have a8:∀j,J j->S.get j=H0.get j:=fun j u=>by rw[s4.get j (oN (I j u)),hS.get j (I j u)]
 have a1:∀j,pls G H2 S j->j<S.next/\¬j9 (nS) j:=fun j u=>⟨by
  rcases u with u|u
  .have:=a5 j u;omega
  .exact u.2,A9 j⟩
 have a7:∀j,J j->pls G H2 S j:=fun j u=> .inl (b6 j u);have c9:∀j,G j->S.get j=H2.get j:=fun j u=>s4.get j (a5 j u);rcases b2:V0 E eB with _|_
 all_goals
  rw[b2]at O;simp only[b2,if_true,bF]at hx;subst hx;refine J15 f4 f9 b5 b b9.symm d0 g8 g1 a9 d3 c0 O c6 d4 c3 ?_;refine l9 (F:=fun z=>u9 (u7 (inBlock 3 (u7 (inBlock 4 z) _)) _) _) (ag4 (pls G H2 S) S S.next b4 (nS) lR a1 v1 _ v4 _ D ac ((a8 b4 gG).trans a4) (a7 _ gG) (c7.mono a8 a7 iF) k oM n e9 oM g2 g3 (Q8 E) (by rw[<-b0];exact X.frz fun b hb=>by have:=X.lt hb;exact .inr oM) oM la l lc (hl.mono c9 (fun j u=> .inl u) (fun _ _ h=>w9 _ _ _ _ _ _ h c9 (fun j u=> .inl u))) oM (fun x hx=>by have:=c4 x hx;omega) p5 p6 p7 (az n (Q8 E) l) f1 l.length _ _ ⟨0,nS,_,[],rfl,oM,f4,f5,f6,f7,f8,f9,b0,rfl,rfl,Buf.start a1 t7.nil,rfl⟩) ?_;rintro o' e' H5 ⟨ho,g4,g5,g6,g7,g9,w5,G5,a3,U⟩;obtain⟨wa,wc,b1⟩:=U.own.slice;have n5:=U.next;have s5:i4 H0.next H0 H5:=(hS.trans (s4.weaken oM)).trans (U.gr.stay.weaken oM);rw[b1]at a3;rcases b3:decide ((24:Int)<((az n (Q8 E) l).length:Nat))with _|_
  .have d6:=dF b3;rw[if_neg oM]at fu;refine J5 ho g9 a3 b3 @wrap_small ?_;refine i6 (kk-1) oM ⟨k+1,_,w5,_,oM,oM,g4,g5,g6,g7,b1.symm,rfl,s5,fun j u=> .inl (U.up j (a7 j u)),fun j u=>?_,fun j u=>?_,U.frz w9,oM,Bq n _ k l c4,fu⟩
   .rcases u with u|u
    .rcases U.new j u with r|r
     .rcases r with r|r
      .exact b7 j r
      .exact .inr oM
     .exact .inr oM
    .have:=U.own.lt u;exact .inr oM
   .rcases u with u|u
    .exact(U.lt j u).1
    .exact(U.own.lt u).2
  .have d6:=dT b3;rw[if_pos oM]at fu;refine J3 ho a3 b3 ?_;exact A6 ⟨s5,.inr ⟨rfl,fu.symm,rfl,rfl⟩⟩
theorem ag6(I:Nat->Prop)(H0:d9)(b4:Nat)(a3:∀j,I j->j<H0.next) (s:SpD) (v1 v4:Value) (aa:Option Addr) (ac:Nat) (ba:Option Addr) (bc:Nat) (a9:s.vals.length=s.attrs.length) (b5:H0.get b4=cE [v1,.slice aa s.attrs.length ac,.slice ba s.vals.length bc,v4] 1) (gG:I b4) (c4:SlF H0 I 2 (R1 nmE) (.slice aa s.attrs.length ac) s.attrs) (c6:SlF H0 I 1 (VlF H0 I) (.slice ba s.vals.length bc) s.vals) (b7:s.attrs.length<=1000) (c5:∀x∈s.vals,x.length<=10000)
  (na:Option Addr) (nc:Nat) (O:List NmQ) (c3:SlF H0 I 2 (R1 nmE) (.slice na O.length nc) O) (d6:O.length<=10000) (a2:Option (List EvD)):
  ∀kk e H2,(∃(i:Nat)(w:Value)(y:List EvD)(G:Nat->Prop),kk=O.length-i/\i<=O.length/\e.get 4=pT b4/\e.get 5=w/\e.get 6= .slice na O.length nc/\e.get 7=iV i/\Buf 5 EvF H0.next I H0 (nS) G H2 w y/\y.length<=24*i/\dm s (O.drop i) y=a2)->
  u9 (LE prog O8 (.loop FD) e H2) (fun o e H2=>(o= .exit 0/\e.get 4=pT b4/\∃(w:Value)(y:List EvD)(G:Nat->Prop),a2=some y/\y.length<=24*O.length/\e.get 5=w/\Buf 5 EvF H0.next I H0 (nS) G H2 w y)\/(i4 H0.next H0 H2/\o= .ret/\a2=none/\e.get 2=nS/\e.get 3=iV 13)):=by
 refine j7 _ _ ?_;rintro kk e H2 ⟨i,w,y,G,d4,hi,f4,f5,f6,f7,B,d0,S⟩;have a4:∀j,I j->j<H0.next/\¬j9 (nS) j:=fun j D=>⟨a3 j D,A9 j⟩
 have B0:=fun j D=>B.get a4 j D;have nx:=B.next;rcases b:decide ((i:Int)<O.length)with _|_
 .have b8:=dF b;have:O.drop i=[]:=dN oM;rw[this,dm]at S;refine J3 f6 f7 b ?_;exact l7 (.inl ⟨rfl,f4,w,y,G,S.symm,oM,f5,B⟩)
 have b8:=dT b;obtain⟨n,nb,o,cs,own,el,hx,hd,rfl,hF,hg,d5,b0,hc,rfl⟩:=c3.row (i:=i) oM;have c7:(i:Int).toNat=i:=tN i;have g2:=(B0 _ hF).trans hg;rw[hd,dm]at S;obtain⟨U,u⟩:=eY ([iV 1,.string n.1,.string n.2,nS,.string eB]:LV);obtain⟨E,a5,n3,-,s3⟩:=pushE H2 (bC U 5);have d2:splice [iV 1,Value.string eB,Value.string eB,nS,Value.string eB] 1 (nmE n)=U:=by rw[u];rfl
 have b1:U.length=5:=by rw[u];rfl
 have c9:U.all oC=true:=by rw[u];rfl
 have d3:(nmE n).all oC=true:=rfl;have a6:E=H2.push (bC [iV 1,.string n.1,.string n.2,nS,.string eB] 5):=by rw[a5,u]
 have B3:=fun j(D:I j)=>(s3.get j (oN (a3 j D))).trans (B0 j D);have W:∀j,I j->pls G H2 E j:=fun j D=> .inl (B.up j D);have X:∀j,pls G H2 E j->j<E.next:=fun j D=>by
  rcases D with D|D
  .have:=B.lt j D;omega
  .exact D.2
 have a7:t7 E H2.next 5 (EvF E (pls G H2 E)) (sL H2.next 1 1) [Y4 n]:=by
  rw[a5];exact t7.fresh rfl lR (D2.one b1 ⟨nS,u,.inl ⟨rfl,rfl⟩⟩)
 have b9:SlF E (pls G H2 E) 5 (EvF E (pls G H2 E)) (sL H2.next 1 1) [Y4 n]:=a7.frz fun b hb=>by have:=a7.lt hb;exact .inr this
 refine J7 f6 f7 b g2 c7 b0 a6.symm ?_;refine l9 (F:=fun z=>u9 (u7 (inBlock 1 (u7 (inBlock 2 z) _)) _) _) (ag5 (pls G H2 E) E b4 X v1 v4 aa s.attrs ac ba s.vals bc a9 ((B3 b4 gG).trans b5) (W _ gG) (c4.mono B3 W iF) (c6.mono B3 W (fun _ _ h=>h.mono B3 W)) b7 c5 w _ _ (cU (s.attrs.zip s.vals) [Y4 n]) s.attrs.length _ _ ⟨0,[Y4 n],_,_,rfl,oM,f4,f5,f6,f7,rfl,rfl,i4.refl _ _,fun _ h=>h,fun _ h=> .inl h,X,b9,by simp,by simp [Y4],rfl⟩) ?_;rintro o' e' H5 ⟨s5,⟨ho,g4,g5,g6,g7,l,w8,G5,J,d1,g8,h1,h2,h3,c0⟩|⟨ho,J,b2,b3⟩⟩
 .rw[J]at S
  dsimp only at S
  have n5:=s5.next;have c8:i4 H2.next H2 H5:=s3.trans (s5.weaken oM);have B5:=B.stay w9 c8 nx;have a1:∀j,G5 j->pls G H2 H5 j:=fun j D=>by
   have:=h3 j D;rcases h2 j D with r|r
   .rcases r with r|r
    .exact .inl r
    .exact .inr ⟨r.1,this⟩
   .exact .inr ⟨oM,this⟩
  obtain⟨w6,h6,H6,b6,a8,B6⟩:=B5.append (P:=prog) (t:=35) w9 (by exact uT.2.2.2.2.2.2) aG.1 aG.2.1 aG.2.2.1 oM oM (c0.mono (fun _ _=>rfl) a1 (fun _ _ h=>w9 _ _ _ _ _ _ h (fun _ _=>rfl) a1)) oM oM;refine J7 ho g5 g7 g8 b6 a8 @wrap_small ?_;exact i6 (kk-1) oM ⟨i+1,w6,y++l,_,oM,oM,g4,rfl,g6,rfl,B6,by rw[List.length_append];omega,S⟩
 .rw[J]at S
  dsimp only at S
  refine J1 ho ?_;have n5:=s5.next;exact A6 (.inr ⟨((B.gr.stay).trans (s3.weaken nx)).trans (s5.weaken oM),rfl,S.symm,b2,b3⟩)
theorem ag7(E:Nat->Prop)(H0:d9)(w0:Value)(lo:Nat)(a4:lo<=H0.next)(I:∀j,E j->j<H0.next/\¬j9 w0 j) (ta:Option Addr) (tc:Nat) (ts:List ByteArray) (S:SlF H0 E 1 (R1 stE) (.slice ta ts.length tc) ts) (a5:ts.length<=100000) (u:List EvD) (X:u.length<=10000000):
  ∀U e H2,(∃(i:Nat)(w:Value)(h:List EvD)(G:Nat->Prop),U=ts.length-i/\i<=ts.length/\e.get 5=w/\e.get 15= .slice ta ts.length tc/\e.get 16=iV i/\Buf 5 EvF lo E H0 w0 G H2 w h/\h++(ts.drop i).map bZ=u)->
  u9 (LE prog O8 (.loop FE) e H2) (fun o e H2=>o= .exit 8/\∃(w:Value)(G:Nat->Prop),e.get 5=w/\Buf 5 EvF lo E H0 w0 G H2 w u):=by
 refine j7 _ _ ?_;rintro U e H2 ⟨i,w,h,G,a2,hi,f5,f15,f16,B,z⟩;have B0:=fun j hj=>B.get I j hj;have nx:=B.next;rcases b:decide ((i:Int)<ts.length)with _|_
 .have O:=dF b;have:ts.drop i=[]:=dN oM;rw[this,List.map_nil,List.append_nil]at z;subst z;refine J3 f15 f16 b ?_;exact l7 ⟨rfl,w,G,f5,B⟩
 have O:=dT b;obtain⟨v,nb,o,cs,own,el,hx,hd,rfl,hF,hg,a3,a1,hc,rfl⟩:=S.row (i:=i) oM;have W:(i:Int).toNat=i:=tN i;have g2:=(B0 _ hF).trans hg;rw[hd,List.map_cons,List.append_cons]at z;have y:=hc 0 oM;rw[Nat.add_zero]at y;obtain⟨w6,h6,H6,J,D,B6⟩:=B.push (P:=prog) (t:=35) w9 (by exact uT.2.2.2.2.2.2) aG.1 aG.2.1 aG.2.2.1 oM oM (cs:=[iV 2,.string eB,.string eB,nS,.string v]) (a:=bZ v) rfl ⟨nS,rfl,.inl ⟨rfl,rfl⟩⟩ (by have:=congrArg List.length z;simp at this;omega) oM;refine J10 f5 f15 f16 b g2 W y J D @wrap_small ?_;exact i6 (U-1) oM ⟨i+1,w6,h++[bZ v],G,oM,oM,rfl,f15,rfl,B6,z⟩
mutual
theorem bU:∀(f:Bool)(q:Q),(fsQ f q).length<=nQ q
 |f,.mk o s c v a b=>by
  have h1:=gD f a;have h2:=gD (!f) b;rw[fsQ,nQ,List.length_append,List.length_append];split<;>simp<;>omega
theorem gD:∀(f:Bool)(l:List Q),(fsL f l).length<=nL l
 |_,[]=>by simp [fsL]
 |f,x::l=>by
  have h1:=bU f x;have h2:=gD f l;rw[fsL,nL,List.length_append];omega
end
theorem jX(q:Q):(spQ q).names.length<=nQ q/\(spQ q).attrs.length<=nQ q/\(spQ q).vals.length=(spQ q).attrs.length/\(∀x∈(spQ q).vals,x.length<=nQ q)/\(spQ q).texts.length<=nQ q:=by
 have h:=bU false q;refine⟨?_,?_,by simp [spQ],?_,?_⟩
 .have:=aA3 (bI 4 4) qNm Q3 (fsQ false q) [];simp [spQ,S9]at this ⊢;omega
 .have:=aA3 (bI 5 6) qNm Q3 (fsQ false q) [];simp [spQ,S9]at this ⊢;omega
 .intro x u;simp only[spQ,List.mem_map]at u;obtain⟨n,_,rfl⟩:=u;have:=aA3 (dv 6 n) Q.vl ci (fsQ false q) [];simp [S7]at this ⊢;omega
 .have:=aA3 (dv 7 (eB,eB)) Q.vl ci (fsQ false q) [];simp [spQ,S7]at this ⊢;omega
def Oa(H:d9)(s:SpD)(w:Value)(H1:d9):Prop:=∃v er,w= .tuple #[v,iV er]/\((S8 s=none/\v=nS/\er=13)\/∃l,S8 s=some l/\er=0/\SlF H1 (· <H1.next) 5 (EvF H1 (· <H1.next)) v l)/\i4 H.next H H1
theorem uw(H:d9)(lo k:Nat)(cs:LV)(q:Q)(i0:lo<=H.next)(hr:QR H lo k false cs q)(e7:OkD false q)(h0:nQ q<=1000):
  Ret (CL prog O8 35 [.agg cs.toArray] H) H (Oa H (spQ q)):=by
 obtain⟨f0,e9,d0,O,f1⟩:=jX q;obtain⟨s,hs⟩:=eY (spQ q);rw[<-hs]at f0 e9 d0 O f1 ⊢;have a0:cs.all oC=true:=by
  cases k with
  |zero=>exact hr.elim
  |succ k=>obtain⟨_,_,_,_,rfl,_⟩:=hr.path;rfl
 have f2:ldC (some true) (some 3) 0 cs=some (.agg cs.toArray):=by
  cases k with
  |zero=>exact hr.elim
  |succ k=>obtain⟨_,_,_,_,rfl,_⟩:=hr.path;rfl
 obtain⟨H1,a9,-,hg,hS⟩:=pushF H (bC cs 1);have c7:H.next<=H1.low:=by rw[a9,O7];exact lR
 have n1:=hS.next;have i3:=u6 hg;obtain⟨v2,h2,H2,e4,c0,h3,rfl,b9,s2⟩:=yr H1 lo k cs q oM (hr.mono (fun j u=>hS.get j oM) lR) e7 (oN (bU false q));have n2:=s2.next;rw[<-hs]at b9;obtain⟨v1,va,vb,v4,rfl,a4,d1,d2,a5⟩:=b9;obtain⟨aa,ac,rfl⟩:=d1.slice;obtain⟨ba,bc,rfl⟩:=d2.slice;obtain⟨na,nc,rfl⟩:=a4.slice;obtain⟨ta,tc,rfl⟩:=a5.slice;obtain⟨K0,d3,m0,b0,t0⟩:=pushP H2 (bC [nS,nS,nS,nS] 1) (bC [.slice na s.names.length nc,.slice aa s.attrs.length ac,.slice ba s.vals.length bc,.slice ta s.texts.length tc] 1);obtain⟨K1,b6,m1,-,t1⟩:=pushE K0 (bC [] 2);have q1:∀j,j<H2.next->K1.get j=H2.get j:=fun j u=>by rw[t1.get j oM,t0.get j u]
 have b1:=(t1.get _ oM).trans b0;have d4:t7 K1 K0.next 2 (R1 nmE) (sL K0.next 0 0) []:=by rw[b6];exact t7.fresh rfl lR D2.nil
 obtain⟨w2,h6,K2,d6,a3,W,t2⟩:=d4.append (P:=prog) (t:=95) (n:=H2.next) (by exact pJ.2.2.2.2.2.2) cr.1 cr.2.1 cr.2.2.1 oM oM (a4.mono q1 lR iF) (by simp;omega) oM;rw[List.nil_append]at W;have m2:=t2.next;have b2:=(t2.get _ oM).trans b1;have q2:∀j,j<H2.next->K2.get j=H2.get j:=fun j u=>by rw[t2.get j oM,q1 j u]
 have e6:=yq K2 H2.next (.slice na s.names.length nc) s.names oM (a4.mono q2 lR iF) oM;obtain⟨w4,h4,D,d8,c3,X,U⟩:=W.push1F (P:=prog) (t:=95) (cs:=nmE (zNm (Q4 s.names))) (a:=zNm (Q4 s.names)) (by exact pJ.2.2.2.2.2.2) cr.1 cr.2.1 cr.2.2.1 oM oM rfl rfl oM oM;have m4:=U.next;have t4:i4 H2.next H2 D:=(t0.trans (t1.weaken oM)).trans ((t2.weaken oM).trans (U.stay.weaken oM));have b4:D.get H2.next=_:=(U.but _ oM (fun q=>by have:=W.lt q;omega)).trans b2;have q4:∀j,j<H2.next->D.get j=H2.get j:=fun j u=>t4.get j u;rw[j8 ab3 rfl _ sM];refine J16 a0 a9.symm hg f2 e4 c0 d3.symm b0 b6.symm b1 d6 a3 b2 e6 d8 c3 ?_;obtain⟨g0,g1,a6⟩:=X.slice;have i1:(s.names++[zNm (Q4 s.names)]).length=s.names.length+1:=sM;have e8:i4 H.next H D:=(hS.trans (s2.weaken oM)).trans (t4.weaken oM);have c6:H.next<=D.low:=((s2.weaken oM).trans (t4.weaken oM)).low c7;have g8:∀x∈s.vals,x.length<=10000:=fun x hx=>oN (O x hx);refine l9 (F:=fun z=>Ret (u5 _ _ _ (u7 (inBlock 0 z) _)) _ _) (ag6 (· <D.next) D H2.next (fun _ h=>h) s _ _ aa ac ba bc d0 b4 (by show _<_;omega) (d1.mono q4 (show H2.next<=D.next from oM) iF) (SlI.slF (d2.mono q4 (show H2.next<=D.next from oM) (fun _ _ h=>h.mono q4 (fun j u=>oM)))) oM g8 g0 g1 _ (by rw[<-a6];exact X.frz fun b hb=>(X.lt hb).2) oM (dm s (s.names++[zNm (Q4 s.names)]) []) (s.names++[zNm (Q4 s.names)]).length _ _ ⟨0,_,[],_,rfl,oM,rfl,rfl,a6,rfl,Buf.start (fun j u=>⟨u,A9 j⟩) t7.nil,by simp,rfl⟩) ?_;rintro o' e' J (⟨ho,g4,w,E,G,I,g9,g5,B⟩|⟨s5,ho,I,g2,g3⟩)
 .have n5:=B.next;have s5:i4 D.next D J:=B.gr.stay;have b5:=(s5.get _ oM).trans b4;have q5:∀j,j<H2.next->J.get j=H2.get j:=fun j u=>by rw[s5.get j oM,q4 j u]
  obtain⟨L1,b7,l1,-,u1⟩:=pushE J (bC [] 1);have c1:=(u1.get _ oM).trans b5;have r1:∀j,j<H2.next->L1.get j=H2.get j:=fun j u=>by rw[u1.get j oM,q5 j u]
  have d5:t7 L1 J.next 1 (R1 stE) (sL J.next 0 0) []:=by rw[b7];exact t7.fresh rfl lR D2.nil
  obtain⟨x2,h7,L2,e1,c4,b8,u2⟩:=d5.append (P:=prog) (t:=97) (n:=H2.next) (by exact aH.2.2.2.2.2.2) ty9.1 ty9.2.1 ty9.2.2.1 oM oM (a5.mono r1 lR iF) (by simp;omega) oM;rw[List.nil_append]at b8;have l2:=u2.next;have c2:=(u2.get _ oM).trans c1;have r2:∀j,j<H2.next->L2.get j=H2.get j:=fun j u=>by rw[u2.get j oM,r1 j u]
  have c8:=gW L2 H2.next (.slice ta s.texts.length tc) s.texts oM (a5.mono r2 lR iF) oM;obtain⟨x4,h8,L4,e2,c5,a1,a8⟩:=b8.push1F (P:=prog) (t:=97) (cs:=[.string (dg (T7 s.texts))]) (a:=dg (T7 s.texts)) (by exact aH.2.2.2.2.2.2) ty9.1 ty9.2.1 ty9.2.2.1 oM oM rfl rfl oM oM;have l4:=a8.next;have u4:i4 J.next J L4:=(u1.trans u2).trans a8.stay;have B4:=B.stay w9 u4 n5;obtain⟨g6,g7,a7⟩:=a1.slice;have i2:(s.texts++[dg (T7 s.texts)]).length=s.texts.length+1:=sM;refine J11 ho g4 b5 b7.symm c1 e1 c4 c2 c8 e2 c5 ?_;refine l9 (F:=fun z=>Ret (u5 _ _ _ (u7 (inBlock 8 z) _)) _ _) (ag7 (pls G J L4) L4 w D.next oM B4.lt g6 g7 (s.texts++[dg (T7 s.texts)]) (by rw[<-a7];exact a1.frz fun b hb=> .inr (a1.lt hb)) oM (E++(s.texts++[dg (T7 s.texts)]).map bZ) (by rw[List.length_append,List.length_map];omega) (s.texts++[dg (T7 s.texts)]).length _ _ ⟨0,w,E,_,rfl,oM,g5,a7,rfl,Buf.start B4.lt B4.own,rfl⟩) ?_;rintro j0 h5 H6 ⟨c9,w6,G6,k5,S⟩;have B7:=B4.trans S;have n6:=B7.next;have s6:i4 H.next H H6:=e8.trans (B7.gr.stay.weaken oM);have e5:H.next<=H6.low:=(B7.gr.stay.weaken oM).low c6;obtain⟨wa,wc,ew⟩:=S.own.slice;have a2:=S.frz w9;rw[ew]at k5 a2;have y:S8 s=if(E++(s.texts++[dg (T7 s.texts)]).map bZ).length>24 then none else some (E++(s.texts++[dg (T7 s.texts)]).map bZ):=by rw[S8,I]
  rcases b3:decide ((24:Int)<((E++(s.texts++[dg (T7 s.texts)]).map bZ).length:Nat))with _|_
  .have e3:=dF b3;rw[if_neg oM]at y;refine J3 c9 k5 b3 ?_;refine ce (fun hc=>?_) ⟨_,_,rfl,.inr ⟨_,y,rfl,SlF.mono a2 (fun _ _=>rfl) (fun j u=>?_) (fun _ _ h=>w9 _ _ _ _ _ _ h (fun _ _=>rfl) fun j u=>?_)⟩,s6.ret e5⟩
   .rcases a2 with⟨h1,h2⟩|⟨b,o,c,h,_⟩
    .exact⟨_,_,rfl,.inr ⟨_,y,rfl,.inl ⟨h1,h2⟩⟩,i4.refl _ _⟩
    .rw[h]at hc;cases hc
   .rcases u with u|u
    .exact(S.lt j u).1
    .rw[<-ew]at u;exact(S.own.lt u).2
   .rcases u with u|u
    .exact(S.lt j u).1
    .rw[<-ew]at u;exact(S.own.lt u).2
  .have e3:=dT b3;rw[if_pos oM]at y;refine J3 c9 k5 b3 ?_;exact⟨_,none,H,rfl,rfl,_,_,rfl,.inl ⟨y,rfl,rfl⟩,i4.refl _ _⟩
 .have y:S8 s=none:=by rw[S8,I]
  have h9:=(s5.weaken (show H.next<=D.next from oM)).low c6;refine J3 ho g2 g3 ?_;exact⟨_,none,H,rfl,rfl,_,_,rfl,.inl ⟨y,rfl,rfl⟩,i4.refl _ _⟩
def jQ(q:Q):Bool:=decide (y9 (D0 q).progs<=24)&&decide ((C0 q).st<=24)&&(match S8 (spQ q)with|none=>true|some l=>decide (l.length<=14))
theorem rX(q:Q):(D0 q).main=C0 q:=by
 have:∀(l:List Q)(s:StD),(l.foldl ni s).main=s.main:=by
  intro l;induction l with
  |nil=>intro s;rfl
  |cons x l h=>
   intro s;rw[List.foldl_cons,h,ni];split<;>rfl
 rw[D0,this]
theorem ii(q:Q)(I:OkD false q):(D0 q).progs.length=(D0 q).paths.length/\(D0 q).base.length=(D0 q).paths.length/\(D0 q).paths.length<=nQ q/\∀p∈(D0 q).progs,0<=p.st/\p.st<=2*nQ q:=by
 obtain⟨z,h⟩:=bH _ false q lR I;have:∀(l:List Q)(s:StD),(∀x∈l,nQ x<=nQ q)->s.progs.length=s.paths.length->s.base.length=s.paths.length->(∀p∈s.progs,0<=p.st/\p.st<=2*nQ q)->(l.foldl ni s).progs.length=(l.foldl ni s).paths.length/\(l.foldl ni s).base.length=(l.foldl ni s).paths.length/\(l.foldl ni s).paths.length<=s.paths.length+l.length/\∀p∈(l.foldl ni s).progs,0<=p.st/\p.st<=2*nQ q:=by
  intro l;induction l with
  |nil=>intro s z h D E;exact⟨h,D,by simp,E⟩
  |cons x l S=>
   intro s z h D E;have U:=cy x;have J:=z x sM;rw[List.foldl_cons];have key:(ni s x).progs.length=(ni s x).paths.length/\(ni s x).base.length=(ni s x).paths.length/\(ni s x).paths.length<=s.paths.length+1/\∀p∈(ni s x).progs,0<=p.st/\p.st<=2*nQ q:=by
    rw[ni];split
    .exact⟨h,D,oM,E⟩
    .refine⟨by simp [h],by simp [D],by simp,fun p u=>?_⟩;rcases List.mem_append.1 u with u|u
     .exact E p u
     .have:p=C0 x:=by simpa using u
      subst this;omega
   have:=S (ni s x) (fun y O=>z y (by simp [O])) key.1 key.2.1 key.2.2.2;rw[List.length_cons];exact⟨this.1,this.2.1,oM,this.2.2.2⟩
 have:=this (inQ false q) ⟨[],[],[],C0 q⟩ (fun x J=>(h x J).2) rfl rfl sM;rw[<-D0]at this;exact⟨this.1,this.2.1,by have:=this.2.2.1;simp at this;omega,this.2.2.2⟩
theorem ux(H:d9)(lo k:Nat)(cs:LV)(q:Q)(b3:lo<=H.next)(hr:QR H lo k false cs q)(a4:OkD false q)(a3:nQ q<=1000):
  CL prog O8 30 [.agg cs.toArray] H=some (.bool (jQ q),none):=by
 have a0:cs.all oC=true:=by
  cases k with
  |zero=>exact hr.elim
  |succ k=>obtain⟨_,_,_,_,rfl,_⟩:=hr.path;rfl
 have U:ldC (some true) (some 3) 0 cs=some (.agg cs.toArray):=by
  cases k with
  |zero=>exact hr.elim
  |succ k=>obtain⟨_,_,_,_,rfl,_⟩:=hr.path;rfl
 obtain⟨H1,D,-,hg,hS⟩:=pushF H (bC cs 1);have a7:H.next<=H1.low:=by rw[D,O7];exact lR
 have n1:=hS.next;have b4:=u6 hg;obtain⟨v2,h2,H2,J,y,u,rfl,a5,s2⟩:=yu k H1 lo (fun _ _=>True) cs q oM (hr.mono (fun j hj=>hS.get j oM) lR) (fun _ _ _ _ _=>trivial) a4 a3;have n2:=s2.next;obtain⟨pa,pc,ga,gc,ba,bc,ea,ec,ta,tc,a2,_⟩:=N3 a5;have l8:u.length=8:=by rw[a2];rfl
 have a8:u.all oC=true:=by rw[a2];rfl
 have W:ldC (some true) (some 8) 0 u=some (.agg u.toArray):=by rw[a2];rfl
 have a1:u[3]?=some (.int .i64 (D0 q).main.st):=by rw[a2];rfl
 rw[rX]at a1;obtain⟨H3,I,n3,g3,s3⟩:=pushP H2 (bC z8 1) (bC u 1);have X:splice z8 0 u=u:=w7 _ _ (by rw[l8];rfl);have E:H3.get H.next=cE cs 1:=by rw[s3.get _ oM,s2.get _ oM];exact hg
 obtain⟨v4,h4,H4,O,z,lv,er,rfl,a6,s4⟩:=uw H3 lo k cs q oM (hr.mono (fun j hj=>by rw[s3.get j oM,s2.get j oM,hS.get j oM]) lR) a4 a3;have n4:=s4.next;have g4:H4.get H2.next=cE u 1:=(s4.get _ oM).trans g3;obtain⟨p1,p2,p3,p4⟩:=ii q a4;have S:=yp H4 (fun j=>H1.next<=j/\j<H2.next) (QR H1 lo k false) (fun _ _=>True) u (D0 q) (fun j hj=>oM) (a5.mono (fun j hj=>by rw[s4.get j oM,s3.get j oM]) (fun _ h=>h) iF iF) oM (fun p hp=>by have:=p4 p hp;omega);have b0:H.next<=H4.low:=((s2.weaken (show H.next<=H1.next from oM)).trans ((s3.weaken oM).trans (s4.weaken oM))).low a7;rw[j8 aa9 rfl _ sM,jQ];rcases a6 with⟨h1,rfl,rfl⟩|⟨l,h1,rfl,hl⟩
 .rw[h1];rcases b1:decide (y9 (D0 q).progs<=24)with _|_
  .exact J17 a0 D.symm hg U J y a8 l8 X I.symm E O z g4 W S b1 trivial
  rcases b2:decide ((C0 q).st<=24)with _|_
  .exact J19 a0 D.symm hg U J y a8 l8 X I.symm E O z g4 W S a1 b1 b2 trivial
  .exact J19 a0 D.symm hg U J y a8 l8 X I.symm E O z g4 W S a1 b1 b2 trivial
 .rw[h1];obtain⟨la,lc,rfl⟩:=hl.slice;have a9:decide ((l.length:Int)<=14)=decide (l.length<=14):=decide_eq_decide.2 oM;rcases b1:decide (y9 (D0 q).progs<=24)with _|_
  .exact J17 a0 D.symm hg U J y a8 l8 X I.symm E O z g4 W S b1 trivial
  rcases b2:decide ((C0 q).st<=24)with _|_
  .exact J19 a0 D.symm hg U J y a8 l8 X I.symm E O z g4 W S a1 b1 b2 trivial
  .exact J20 a0 D.symm hg U J y a8 l8 X I.symm E O z g4 W S a1 b1 b2 a9 trivial
theorem ki{P:Program}(t:TypeId)(a:Option Addr)(n c:Nat)(h:(I2 P t).isSome=true):E9 P .eql t (.slice a n c) (nS)=some (.bool a.isNone):=by
 cases a<;>simp [E9,eqA,h]
theorem vn{α:Type}(R:LV->α->Prop)(H:d9)(n:Nat)(v:Value)(l:List α)(hn:n<=H.next)(S:SlI H n 3 R v l)(hl:l.length<=1000000):N5 (CL prog O8 37 [v] H) H 3 R l:=by
 obtain⟨va,ca,rfl⟩:=S.slice;have W:=fun a n c=>ki (P:=prog) 49 a n c (by rw[yM.2.2.2.2.2.1];rfl);rw[j8 ab5 rfl _ sM];rcases b:va.isNone with _|_
 .obtain⟨D,u⟩:=eY (d9.push ⟨H.bs,H.next⟩ (bC [] 3));have X:i4 H.next H D:=by rw[u];exact i4.first H _
  have n1:D.next=H.next+1:=by rw[u,i5];rfl
  have z:H.next<=D.low:=by rw[u,O7];exact lR
  have E:t7 D H.next 3 R (sL H.next 0 0) []:=by rw[u];exact t7.fresh rfl lR D2.nil
  obtain⟨w1,h1,K2,J,y,I,s2⟩:=E.append (P:=prog) (t:=49) (n:=n) (by exact yM.2.2.2.2.2.2) ik.1 ik.2.1 ik.2.2.1 oM oM (S.mono (fun j hj=>X.get j oM) lR iF) (by simp;omega) oM;refine J5 W b u.symm J y ?_;exact I4 I (X.trans s2) (s2.low z)
 .have U:va=none:=by simpa using b
  subst U;have O:l=[]:=by
   rcases S with⟨_,h⟩|⟨b,o,c,h,_⟩
   .exact h
   .cases h
  subst O;refine J2 W b ?_;exact⟨_,none,H,rfl,rfl,t7.nil,i4.refl _ _⟩
theorem CX{α:Type}(R:LV->α->Prop)(H:d9)(n:Nat)(v:Value)(l:List α)(hn:n<=H.next)(S:SlI H n 1 R v l)(hl:l.length<=1000000):N5 (CL prog O8 55 [v] H) H 1 R l:=by
 obtain⟨va,ca,rfl⟩:=S.slice;have W:=fun a n c=>ki (P:=prog) 97 a n c (by rw[aH.2.2.2.2.2.1];rfl);rw[j8 ac3 rfl _ sM];rcases b:va.isNone with _|_
 .obtain⟨D,u⟩:=eY (d9.push ⟨H.bs,H.next⟩ (bC [] 1));have X:i4 H.next H D:=by rw[u];exact i4.first H _
  have n1:D.next=H.next+1:=by rw[u,i5];rfl
  have z:H.next<=D.low:=by rw[u,O7];exact lR
  have E:t7 D H.next 1 R (sL H.next 0 0) []:=by rw[u];exact t7.fresh rfl lR D2.nil
  obtain⟨w1,h1,K2,J,y,I,s2⟩:=E.append (P:=prog) (t:=97) (n:=n) (by exact aH.2.2.2.2.2.2) ty9.1 ty9.2.1 ty9.2.2.1 oM oM (S.mono (fun j hj=>X.get j oM) lR iF) (by simp;omega) oM;refine J5 W b u.symm J y ?_;exact I4 I (X.trans s2) (s2.low z)
 .have U:va=none:=by simpa using b
  subst U;have O:l=[]:=by
   rcases S with⟨_,h⟩|⟨b,o,c,h,_⟩
   .exact h
   .cases h
  subst O;refine J2 W b ?_;exact⟨_,none,H,rfl,rfl,t7.nil,i4.refl _ _⟩
theorem MP{α:Type}(H0:d9)(F:Nat->Prop)(R:LV->α->Prop)(S:Value)(p:α->Bool)(X:Option Addr)(O:Nat)(l:List α)(hv:SlF H0 F 3 R (.slice X l.length O) l)(hn:l.length<=1048576)(hf:∀(i:Nat)(x:α)(el:LV),l[i]?=some x->R el x->dM (CL prog O8) S [.agg el.toArray] H0=some (.bool (p x),none)) (r:Int):
  ∀J e H2,(∃i:Nat,J=l.length-i/\i<=l.length/\e.get 0= .slice X l.length O/\e.get 1=S/\e.get 7=iV l.length/\e.get 8=iV i/\H2=H0/\ixG p (l.drop i) i=r)->
  u9 (LE prog O8 (.loop Au) e H2) (fun o e H2=>H2=H0/\((o= .exit 0/\r= -1)\/(o= .ret/\e.get 4=iV r))):=by
 refine j7 _ _ ?_;rintro J e H2 ⟨i,hk,hi,D,E,f7,f8,hH,y⟩;subst hH;rcases b:decide ((i:Int)<l.length)with _|_
 .have I:=dF b;have:l.drop i=[]:=dN oM;rw[this,ixG]at y;refine J3 f7 f8 b ?_;exact l7 ⟨rfl,.inl ⟨rfl,y.symm⟩⟩
 have I:=dT b;obtain⟨x,nb,o,cs,own,el,hx,hd,rfl,hF,U,a1,u,hc,hR⟩:=hv.row (i:=i) oM;have W:(i:Int).toNat=i:=tN i;have h:=hf i x el hx hR;rw[hd,ixG]at y;rcases z:p x with _|_
 .simp only[z,bF]at y;rw[z]at h;refine J10 D E f7 f8 b U W u h @wrap_small ?_;exact i6 (J-1) oM ⟨i+1,oM,oM,D,E,f7,rfl,rfl,y⟩
 .simp only[z,if_true]at y;rw[z]at h;refine J9 D E f7 f8 b U W u h ?_;exact A6 ⟨rfl,.inr ⟨rfl,by rw[<-y];rfl⟩⟩
theorem kK{α:Type}(H:d9)(F:Nat->Prop)(R:LV->α->Prop)(u:Value)(p:α->Bool)(v:Value)(l:List α)(E:SlF H F 3 R v l)(S:l.length<=1048576)(O:∀(i:Nat)(x:α)(el:LV),l[i]?=some x->R el x->dM (CL prog O8) u [.agg el.toArray] ⟨H.bs,H.next⟩=some (.bool (p x),none)):
  CL prog O8 130 [v,u] H=some (.int .i64 (ixG p l 0),none):=by
 obtain⟨W,I,rfl⟩:=E.slice;have X:(⟨H.bs,H.next⟩:d9).low=H.next:=rfl;rw[j8 WS rfl _ sM];refine J1 jL ?_;refine l9 (F:=fun z=>u5 _ _ _ (u7 (inBlock 0 z) _)=_) (MP ⟨H.bs,H.next⟩ F R u p W I l (E.mono (fun _ _=>rfl) (fun _ h=>h) iF) S O (ixG p l 0) l.length _ _ ⟨0,rfl,oM,rfl,rfl,rfl,rfl,rfl,rfl⟩) ?_;rintro o e' H' ⟨D,⟨y,U⟩|⟨y,J⟩⟩
 .exact J3 y D U trivial
 .exact J3 y D J trivial
theorem kJ{α:Type}(H:d9)(F:Nat->Prop)(R:LV->α->Prop)(u:Value)(p:α->Bool)(v:Value)(l:List α)(E:SlF H F 3 R v l)(D:l.length<=1048576)(z:∀(i:Nat)(x:α)(el:LV),l[i]?=some x->R el x->dM (CL prog O8) u [.agg el.toArray] ⟨H.bs,H.next⟩=some (.bool (p x),none)):
  CL prog O8 104 [v,u] H=some (.bool (l.any p),none):=by
 have y:=kK ⟨H.bs,H.next⟩ F R u p v l (E.mono (fun _ _=>rfl) (fun _ h=>h) iF) D z;rw[j8 Wu rfl _ sM,<-eU];exact J1 y trivial
theorem MQ{α:Type}(H0:d9)(F:Nat->Prop)(R:LV->α->Prop)(S:Value)(p:α->Bool)(X:Option Addr)(O:Nat)(l:List α)(hv:SlF H0 F 6 R (.slice X l.length O) l)(hn:l.length<=1048576)(hf:∀(i:Nat)(x:α)(el:LV),l[i]?=some x->R el x->dM (CL prog O8) S [.agg el.toArray] H0=some (.bool (p x),none)) (r:Int):
  ∀J e H2,(∃i:Nat,J=l.length-i/\i<=l.length/\e.get 0= .slice X l.length O/\e.get 1=S/\e.get 7=iV l.length/\e.get 8=iV i/\H2=H0/\ixG p (l.drop i) i=r)->
  u9 (LE prog O8 (.loop AE) e H2) (fun o e H2=>H2=H0/\((o= .exit 0/\r= -1)\/(o= .ret/\e.get 4=iV r))):=by
 refine j7 _ _ ?_;rintro J e H2 ⟨i,hk,hi,D,E,f7,f8,hH,y⟩;subst hH;rcases b:decide ((i:Int)<l.length)with _|_
 .have I:=dF b;have:l.drop i=[]:=dN oM;rw[this,ixG]at y;refine J3 f7 f8 b ?_;exact l7 ⟨rfl,.inl ⟨rfl,y.symm⟩⟩
 have I:=dT b;obtain⟨x,nb,o,cs,own,el,hx,hd,rfl,hF,U,a1,u,hc,hR⟩:=hv.row (i:=i) oM;have W:(i:Int).toNat=i:=tN i;have h:=hf i x el hx hR;rw[hd,ixG]at y;rcases z:p x with _|_
 .simp only[z,bF]at y;rw[z]at h;refine J10 D E f7 f8 b U W u h @wrap_small ?_;exact i6 (J-1) oM ⟨i+1,oM,oM,D,E,f7,rfl,rfl,y⟩
 .simp only[z,if_true]at y;rw[z]at h;refine J9 D E f7 f8 b U W u h ?_;exact A6 ⟨rfl,.inr ⟨rfl,by rw[<-y];rfl⟩⟩
theorem aB4{α:Type}(H:d9)(F:Nat->Prop)(R:LV->α->Prop)(u:Value)(p:α->Bool)(v:Value)(l:List α)(E:SlF H F 6 R v l)(S:l.length<=1048576)(O:∀(i:Nat)(x:α)(el:LV),l[i]?=some x->R el x->dM (CL prog O8) u [.agg el.toArray] ⟨H.bs,H.next⟩=some (.bool (p x),none)):
  CL prog O8 153 [v,u] H=some (.int .i64 (ixG p l 0),none):=by
 obtain⟨W,I,rfl⟩:=E.slice;have X:(⟨H.bs,H.next⟩:d9).low=H.next:=rfl;rw[j8 Xi rfl _ sM];refine J1 pI ?_;refine l9 (F:=fun z=>u5 _ _ _ (u7 (inBlock 0 z) _)=_) (MQ ⟨H.bs,H.next⟩ F R u p W I l (E.mono (fun _ _=>rfl) (fun _ h=>h) iF) S O (ixG p l 0) l.length _ _ ⟨0,rfl,oM,rfl,rfl,rfl,rfl,rfl,rfl⟩) ?_;rintro o e' H' ⟨D,⟨y,U⟩|⟨y,J⟩⟩
 .exact J3 y D U trivial
 .exact J3 y D J trivial
theorem kL{α:Type}(H:d9)(F:Nat->Prop)(R:LV->α->Prop)(u:Value)(p:α->Bool)(v:Value)(l:List α)(E:SlF H F 6 R v l)(D:l.length<=1048576)(z:∀(i:Nat)(x:α)(el:LV),l[i]?=some x->R el x->dM (CL prog O8) u [.agg el.toArray] ⟨H.bs,H.next⟩=some (.bool (p x),none)):
  CL prog O8 136 [v,u] H=some (.bool (l.any p),none):=by
 have y:=aB4 ⟨H.bs,H.next⟩ F R u p v l (E.mono (fun _ _=>rfl) (fun _ h=>h) iF) D z;rw[j8 WY rfl _ sM,<-eU];exact J1 y trivial
theorem F0{H:d9}{lo k:Nat}{f:Bool}{cs:LV}{q:Q}(h:QR H lo k f cs q):cs.all oC=true:=by
 cases k with
 |zero=>exact h.elim
 |succ k=>
  cases f
  .obtain⟨_,_,_,_,rfl,_⟩:=h.path;rfl
  .obtain⟨_,_,_,_,rfl,_⟩:=h.filter;rfl
theorem M8{H:d9}{lo k:Nat}{f:Bool}{cs:LV}{q:Q}(h:QR H lo k f cs q):ldC (some true) (some cs.length) 0 cs=some (.agg cs.toArray):=by
 cases k with
 |zero=>exact h.elim
 |succ k=>
  cases f
  .obtain⟨_,_,_,_,rfl,_⟩:=h.path;rfl
  .obtain⟨_,_,_,_,rfl,_⟩:=h.filter;rfl
def mM(fn g:Nat)(f:Bool)(k:Nat):Prop:=∀(H:d9)(lo:Nat)(va vb:Value)(l m:List Q),lo<=H.next->QsR H lo k f va l->QsR H lo k f vb m->l.length<=1048576->m.length<=1048576->CL prog O8 fn [va,vb,.func (.func g) #[] #[]] H=some (.bool (decide (l.length=m.length)&&L8 l m),none)
theorem qt(k:Nat)(ih:N7 106 false k)(H0:d9)(lo:Nat)(va vb:Option Addr)(ca cb:Nat)(l m:List Q)(b8:l.length=m.length)(b9:lo<=H0.next)(hv:QsR H0 lo k false (.slice va l.length ca) l)(hw:QsR H0 lo k false (.slice vb m.length cb) m)(hn:l.length<=1048576)(r:Bool):
  ∀kk e H2,(∃i:Nat,kk=l.length-i/\i<=l.length/\e.get 1= .slice vb m.length cb/\e.get 2= .func (.func 106) #[] #[]/\e.get 15= .slice va l.length ca/\e.get 16=iV l.length/\e.get 17=iV i/\i4 H0.next H0 H2/\L8 (l.drop i) (m.drop i)=r)->
  u9 (LE prog O8 (.loop Av) e H2) (fun o e H2=>i4 H0.next H0 H2/\((o= .exit 0/\r=true)\/(o= .ret/\e.get 6= .bool false/\r=false))):=by
 refine j7 _ _ ?_;rintro kk e H2 ⟨i,hk,hi,f1,f2,f15,f16,f17,S,I⟩;rcases b:decide ((i:Int)<l.length)with _|_
 .have b0:=dF b;have:l.drop i=[]:=dN oM;rw[this,L8]at I;refine J3 f16 f17 b ?_;exact l7 ⟨S,.inl ⟨rfl,I.symm⟩⟩
 have b0:=dT b;have c3:=S.next;obtain⟨x,nb,o,cs,own,el,hx,hd,rfl,c0,hg,b3,z,hr⟩:=hv.row (i:=i) oM;obtain⟨y,b4,o',cs',b7,h,c4,b1,rfl,b5,a5,a6,u,E⟩:=hw.row (i:=i) oM;have nt:(i:Int).toNat=i:=tN i;have b6:(i:Int)<m.length:=oM;rw[hd,b1,V5]at I;simp only[qSz,if_true,bF]at z hg u a5 b3 a6;have U:=hr.len;have W:=E.len;simp only[qSz,if_true,bF]at U W;have a1:el.all oC=true:=F0 hr;have a2:h.all oC=true:=F0 E;obtain⟨H3,a3,n3,g3,s3⟩:=pushP H2 (bC [iV 0,nS,nS] 1) (bC el 1);have a8:splice [iV 0,nS,nS] 0 el=el:=w7 _ _ (by rw[U];rfl);have a9:splice [iV 0,nS,nS] 0 h=h:=w7 _ _ (by rw[W];rfl);obtain⟨H4,a4,n4,g4,s4⟩:=pushP H3 (bC [iV 0,nS,nS] 1) (bC h 1);have X:H4.get H2.next=cE el 1:=(s4.get _ oM).trans g3;have gx:H2.get nb=_:=(S.get _ oM).trans hg;have gy:H3.get b4=_:=(s3.get _ oM).trans ((S.get _ oM).trans a5);have J:ldC (some true) (some el.length) 0 el=some (.agg el.toArray):=M8 hr;have O:ldC (some true) (some h.length) 0 h=some (.agg h.toArray):=M8 E;rw[U]at J;rw[W]at O;have k4:∀j,j<lo->H4.get j=H0.get j:=fun j hj=>by rw[s4.get _ oM,s3.get _ oM,S.get _ oM]
 have D:=ih H4 lo el h x y oM (hr.mono k4 lR) (E.mono k4 lR);have a7:i4 H0.next H0 H4:=(S.trans (s3.weaken oM)).trans (s4.weaken oM);rcases b2:M0 x y with _|_
 .rw[b2]at D I;refine J24 f1 f2 f15 f16 f17 b gx nt z a1 U a8 a3.symm gy u a2 W a9 a4.symm X g4 J O D ?_;exact A6 ⟨a7,.inr ⟨rfl,rfl,by rw[<-I];rfl⟩⟩
 .rw[b2]at D I;refine J25 f1 f2 f15 f16 f17 b gx nt z a1 U a8 a3.symm gy u a2 W a9 a4.symm X g4 J O D @wrap_small ?_;exact i6 (kk-1) oM ⟨i+1,oM,oM,f1,f2,f15,f16,rfl,a7,I⟩
theorem zZ(k:Nat)(ih:N7 106 false k):mM 131 106 false k:=by
 intro H lo va vb l m y J O hn hm;obtain⟨S,U,rfl⟩:=J.slice;obtain⟨W,X,rfl⟩:=O.slice;have el:decide ((l.length:Int)=m.length)=decide (l.length=m.length):=decide_eq_decide.2 oM;rw[j8 WT rfl _ sM];rcases b:decide (l.length=m.length)with _|_
 .exact J2 el b trivial
 .refine J2 el b ?_;refine l9 (F:=fun z=>u5 _ _ _ (u7 (inBlock 0 z) _)=_) (qt k ih ⟨H.bs,H.next⟩ lo S W U X l m (dT b) y (J.mono (fun _ _=>rfl) lR) (O.mono (fun _ _=>rfl) lR) hn (L8 l m) l.length _ _ ⟨0,rfl,oM,rfl,rfl,rfl,rfl,rfl,i4.refl _ _,rfl⟩) ?_;rintro o e' H' ⟨I,⟨D,E⟩|⟨D,h4,E⟩⟩
  .have h:=I.low lR;have u:H.next<=H'.low:=h;exact J2 D E trivial
  .have h:=I.low lR;have u:H.next<=H'.low:=h;exact J3 D h4 E trivial
theorem qu(k:Nat)(ih:N7 133 true k)(H0:d9)(lo:Nat)(va vb:Option Addr)(ca cb:Nat)(l m:List Q)(b8:l.length=m.length)(b9:lo<=H0.next)(hv:QsR H0 lo k true (.slice va l.length ca) l)(hw:QsR H0 lo k true (.slice vb m.length cb) m)(hn:l.length<=1048576)(r:Bool):
  ∀kk e H2,(∃i:Nat,kk=l.length-i/\i<=l.length/\e.get 1= .slice vb m.length cb/\e.get 2= .func (.func 133) #[] #[]/\e.get 15= .slice va l.length ca/\e.get 16=iV l.length/\e.get 17=iV i/\i4 H0.next H0 H2/\L8 (l.drop i) (m.drop i)=r)->
  u9 (LE prog O8 (.loop Aw) e H2) (fun o e H2=>i4 H0.next H0 H2/\((o= .exit 0/\r=true)\/(o= .ret/\e.get 6= .bool false/\r=false))):=by
 refine j7 _ _ ?_;rintro kk e H2 ⟨i,hk,hi,f1,f2,f15,f16,f17,S,I⟩;rcases b:decide ((i:Int)<l.length)with _|_
 .have b0:=dF b;have:l.drop i=[]:=dN oM;rw[this,L8]at I;refine J3 f16 f17 b ?_;exact l7 ⟨S,.inl ⟨rfl,I.symm⟩⟩
 have b0:=dT b;have c3:=S.next;obtain⟨x,nb,o,cs,own,el,hx,hd,rfl,c0,hg,b3,z,hr⟩:=hv.row (i:=i) oM;obtain⟨y,b4,o',cs',b7,h,c4,b1,rfl,b5,a5,a6,u,E⟩:=hw.row (i:=i) oM;have nt:(i:Int).toNat=i:=tN i;have b6:(i:Int)<m.length:=oM;rw[hd,b1,V5]at I;simp only[qSz,if_true,bF]at z hg u a5 b3 a6;have U:=hr.len;have W:=E.len;simp only[qSz,if_true,bF]at U W;have a1:el.all oC=true:=F0 hr;have a2:h.all oC=true:=F0 E;obtain⟨H3,a3,n3,g3,s3⟩:=pushP H2 (bC [iV 0,.string eB,.string eB,.string eB,nS,nS] 1) (bC el 1);have a8:splice [iV 0,.string eB,.string eB,.string eB,nS,nS] 0 el=el:=w7 _ _ (by rw[U];rfl);have a9:splice [iV 0,.string eB,.string eB,.string eB,nS,nS] 0 h=h:=w7 _ _ (by rw[W];rfl);obtain⟨H4,a4,n4,g4,s4⟩:=pushP H3 (bC [iV 0,.string eB,.string eB,.string eB,nS,nS] 1) (bC h 1);have X:H4.get H2.next=cE el 1:=(s4.get _ oM).trans g3;have gx:H2.get nb=_:=(S.get _ oM).trans hg;have gy:H3.get b4=_:=(s3.get _ oM).trans ((S.get _ oM).trans a5);have J:ldC (some true) (some el.length) 0 el=some (.agg el.toArray):=M8 hr;have O:ldC (some true) (some h.length) 0 h=some (.agg h.toArray):=M8 E;rw[U]at J;rw[W]at O;have k4:∀j,j<lo->H4.get j=H0.get j:=fun j hj=>by rw[s4.get _ oM,s3.get _ oM,S.get _ oM]
 have D:=ih H4 lo el h x y oM (hr.mono k4 lR) (E.mono k4 lR);have a7:i4 H0.next H0 H4:=(S.trans (s3.weaken oM)).trans (s4.weaken oM);rcases b2:M0 x y with _|_
 .rw[b2]at D I;refine J24 f1 f2 f15 f16 f17 b gx nt z a1 U a8 a3.symm gy u a2 W a9 a4.symm X g4 J O D ?_;exact A6 ⟨a7,.inr ⟨rfl,rfl,by rw[<-I];rfl⟩⟩
 .rw[b2]at D I;refine J25 f1 f2 f15 f16 f17 b gx nt z a1 U a8 a3.symm gy u a2 W a9 a4.symm X g4 J O D @wrap_small ?_;exact i6 (kk-1) oM ⟨i+1,oM,oM,f1,f2,f15,f16,rfl,a7,I⟩
theorem Aa(k:Nat)(ih:N7 133 true k):mM 132 133 true k:=by
 intro H lo va vb l m y J O hn hm;obtain⟨S,U,rfl⟩:=J.slice;obtain⟨W,X,rfl⟩:=O.slice;have el:decide ((l.length:Int)=m.length)=decide (l.length=m.length):=decide_eq_decide.2 oM;rw[j8 WU rfl _ sM];rcases b:decide (l.length=m.length)with _|_
 .exact J2 el b trivial
 .refine J2 el b ?_;refine l9 (F:=fun z=>u5 _ _ _ (u7 (inBlock 0 z) _)=_) (qu k ih ⟨H.bs,H.next⟩ lo S W U X l m (dT b) y (J.mono (fun _ _=>rfl) lR) (O.mono (fun _ _=>rfl) lR) hn (L8 l m) l.length _ _ ⟨0,rfl,oM,rfl,rfl,rfl,rfl,rfl,i4.refl _ _,rfl⟩) ?_;rintro o e' H' ⟨I,⟨D,E⟩|⟨D,h4,E⟩⟩
  .have h:=I.low lR;have u:H.next<=H'.low:=h;exact J2 D E trivial
  .have h:=I.low lR;have u:H.next<=H'.low:=h;exact J3 D h4 E trivial
theorem Fa(k:Nat)(a1:mM 131 106 false k)(a2:mM 132 133 true k):N7 106 false (k+1):=by
 intro H lo c1 c2 x y a4 hx hy;obtain⟨s1,s2,s3⟩:=hx.plain rfl;obtain⟨u1,u2,u3⟩:=hy.plain rfl;obtain⟨va,W,wa,E,rfl,h1,h2,h3,h4⟩:=hx.path;obtain⟨vb,X,wb,I,rfl,k1,k2,k3,k4⟩:=hy.path;obtain⟨D,h⟩:=eY ((d9.push ⟨H.bs,H.next⟩ (bC [iV x.op,.slice va x.a.length W,.slice wa x.b.length E] 1)).push (bC [iV y.op,.slice vb y.a.length X,.slice wb y.b.length I] 1));have hS:i4 H.next H D:=by rw[h];exact(i4.first H _).trans (i4.push (by rw[i5];show H.next<=H.next+1;omega))
 have u:D.get H.next=cE [iV x.op,.slice va x.a.length W,.slice wa x.b.length E] 1:=by rw[h,j6 (by rw[i5];show H.next<H.next+1;omega)];exact i7
 have z:D.get (H.next+1)=cE [iV y.op,.slice vb y.a.length X,.slice wb y.b.length I] 1:=by rw[h];exact R2 (by rw[i5];show H.next+1<=H.next+1/\H.next+1<=H.next+1;omega)
 have a3:H.next<=D.low:=by rw[h,O7,O7];exact lR
 have hn:=hS.next;have S:∀j,j<lo->D.get j=H.get j:=fun j hj=>hS.get j oM;have J:=a1 D lo (.slice va x.a.length W) (.slice vb y.a.length X) x.a y.a oM (h1.mono S lR) (k1.mono S lR) h3 k3;have e2:=a2 D lo (.slice wa x.b.length E) (.slice wb y.b.length I) x.b y.b oM (h2.mono S lR) (k2.mono S lR) h4 k4;rw[j8 Ww rfl _ sM,eG];have p1:(decide (x.sp=y.sp)&&decide (x.lc=y.lc))=true:=by rw[s1,s2,u1,u2];rfl
 have p2:decide (x.vl=y.vl)=true:=by rw[s3,u3];rfl
 rw[p1,p2];rcases O:decide (x.op=y.op)with _|_
 .exact J4 h.symm u z O trivial
 rcases U:decide (x.a.length=y.a.length)with _|_
 .rw[U]at J;exact J5 h.symm u z O J trivial
 rcases b5:L8 x.a y.a with _|_
 .rw[U,b5]at J;exact J5 h.symm u z O J trivial
 rw[U,b5]at J;exact J6 h.symm u z O J e2 trivial
theorem Fc(k:Nat)(a1:mM 132 133 true k)(a2:mM 131 106 false k):N7 133 true (k+1):=by
 intro H lo c1 c2 x y a4 hx hy;obtain⟨va,W,wa,E,rfl,h1,h2,h3,h4,_⟩:=hx.filter;obtain⟨vb,X,wb,I,rfl,k1,k2,k3,k4,_⟩:=hy.filter;obtain⟨D,h⟩:=eY ((d9.push ⟨H.bs,H.next⟩ (bC [iV x.op,.string x.sp,.string x.lc,.string x.vl,.slice va x.a.length W,.slice wa x.b.length E] 1)).push (bC [iV y.op,.string y.sp,.string y.lc,.string y.vl,.slice vb y.a.length X,.slice wb y.b.length I] 1));have hS:i4 H.next H D:=by rw[h];exact(i4.first H _).trans (i4.push (by rw[i5];show H.next<=H.next+1;omega))
 have u:D.get H.next=cE [iV x.op,.string x.sp,.string x.lc,.string x.vl,.slice va x.a.length W,.slice wa x.b.length E] 1:=by rw[h,j6 (by rw[i5];show H.next<H.next+1;omega)];exact i7
 have z:D.get (H.next+1)=cE [iV y.op,.string y.sp,.string y.lc,.string y.vl,.slice vb y.a.length X,.slice wb y.b.length I] 1:=by rw[h];exact R2 (by rw[i5];show H.next+1<=H.next+1/\H.next+1<=H.next+1;omega)
 have a3:H.next<=D.low:=by rw[h,O7,O7];exact lR
 have hn:=hS.next;have S:∀j,j<lo->D.get j=H.get j:=fun j hj=>hS.get j oM;have O:=a1 D lo (.slice va x.a.length W) (.slice vb y.a.length X) x.a y.a oM (h1.mono S lR) (k1.mono S lR) h3 k3;have e2:=a2 D lo (.slice wa x.b.length E) (.slice wb y.b.length I) x.b y.b oM (h2.mono S lR) (k2.mono S lR) h4 k4;rw[j8 WV rfl _ sM,eG];rcases J:decide (x.op=y.op)with _|_
 .exact J4 h.symm u z J trivial
 rcases p1:(decide (x.sp=y.sp)&&decide (x.lc=y.lc))with _|_
 .exact J5 h.symm u z J p1 trivial
 rcases p2:decide (x.vl=y.vl)with _|_
 .exact J6 h.symm u z J p1 p2 trivial
 rcases U:decide (x.a.length=y.a.length)with _|_
 .rw[U]at O;exact J7 h.symm u z J p1 p2 O trivial
 rcases b5:L8 x.a y.a with _|_
 .rw[U,b5]at O;exact J7 h.symm u z J p1 p2 O trivial
 rw[U,b5]at O;exact J8 h.symm u z J p1 p2 O e2 trivial
theorem fw:∀k,N7 106 false k/\N7 133 true k:=by
 intro k;induction k with
 |zero=>exact⟨fun H lo c1 c2 x y u z D=>z.elim,fun H lo c1 c2 x y u z D=>z.elim⟩
 |succ k h=>exact⟨Fa k (zZ k h.1) (Aa k h.2),Fc k (Aa k h.2) (zZ k h.1)⟩
end Go.Proofs.YtofbhlhamfkljaaGreatDoor.Ve
namespace Go.Proofs.YtofbhlhamfkljaaGreatDoor.Ve
open Go Ab
abbrev SM:=cC (T 7) (cO [N 8 (.makeInterface 9 (.const (.string ⟨#[115,108,105,99,101,115,46,77,97,120,58,32,101,109,112,116,121,32,108,105,115,116]⟩))),V (.panic (T 8))]) .skip
abbrev SN:=cO [M 16 4,N 17 (iN 16),A 4 17]
abbrev SO:=cS (cB 1 (cO [M 18 3,M 19 0,M 20 4,N 21 (ia 29 19 20),L 22 3 21,N 23 (bi .max #[T 18,T 22] #[3,3]),A 3 23])) SN
abbrev FS:=cS (cX [M 12 4,M 13 0,N 14 (ln 13 29),N 15 (bo .lss 3 12 14 3)] (cC (T 15) .skip (.exit 0))) SO
abbrev SP:=cS (cX [N 4 (ak 1)] (cW 0 FS)) (cR [M 24 3,A 2 24])
abbrev SQ:=cX [M 9 0,N 10 (.indexAddr 29 (T 9) (K 0)),L 11 3 10,A 3 11] SP
abbrev SR:=cS (cX [M 5 0,N 6 (ln 5 29),N 7 (bk .lss 3 6 1 3)] SM) SQ
abbrev f60:=cX [N 2 (ak 0)] SR
theorem ac8:fE 60 f60 25 [.tmp 2]:=fR
abbrev Uo:=cO [M 15 0,L 16 86 5,N 17 (c2 82 15 16 132 86)]
abbrev Up:=cS (cB 1 (cX [N 13 (ia 23 9 11),L 14 86 13,N 5 (.alloc 86),V (st' 86 5 14)] Uo)) (cO [N 18 (iN 11),M 11 18])
abbrev Gk:=cH 12 11 10 Up
abbrev Uq:=cO [L 47 25 7,N 48 (ia 22 44 42),V (st' 25 48 47)]
abbrev Ur:=cC (T 35) (.coin [N 36 (.alloc 4),V (.store 4 (T 36) B1),V (.store 4 (T 36) B0),L 37 4 36] [N 36 (.alloc 4),V (.store 4 (T 36) B0),V (.store 4 (T 36) B1),L 37 4 36] [36,37,38,39,40,41,42,43,44,45,46,47,48,49,50,51,52,53,54,55,56,57,58] (cC (T 37) (cX [M 38 0,N 39 (nc 38),F 40 107 39 0,L 41 22 40,N 42 (ln 41 22),N 43 (.buildSlice 22 1 #[(0,.const (.agg #[.int .i64 0,.slice none 0 0,.slice none 0 0]))]),N 44 (ap 41 43 22 22),N 45 (nc 38),F 46 107 45 0,V (st' 22 46 44)] Uq) (.mix [m2 (M 49 0) 0 2,m2 (M 50 0) 0 1,m2 (N 51 (nc 50)) 0 1,m2 (F 52 107 51 0) 0 1,⟨L 53 22 52,false,true,0,1⟩,m1 (L 54 25 7),m4 (N 55 (.buildSlice 22 1 #[(0,T 54)])) 0 1,m3 (N 56 (ap 53 55 22 22)) 1 2,m2 (N 57 (nc 49)) 2 2,m2 (F 58 107 57 0) 2 2,m4 (V (st' 22 58 56)) 2 3]))) .skip
abbrev Us:=cX [M 29 0,N 30 (nc 29),F 31 107 30 0,L 32 22 31,N 33 (.makeFunc (Fn.func 105) #[] #[T 7]),N 34 (c2 104 32 33 22 27),N 35 (nt' 4 34)] Ur
abbrev Ut:=cX [M 26 0,L 27 25 7,N 28 (c2 58 26 27 132 25)] Us
abbrev Uu:=cS (cB 3 (cX [N 24 (ia 22 20 22),L 25 25 24,N 7 (.alloc 25),V (st' 25 7 25)] Ut)) (cO [N 59 (iN 22),M 22 59])
abbrev Gl:=cX [N 23 (bo .lss 3 22 21 3)] (cG 23 2 Uu)
abbrev Uv:=cX [F 19 86 3 4,L 20 22 19,N 21 (ln 20 22),N 22 (.move (K 0))] (cW 2 Gl)
abbrev Uw:=cS (cX [F 8 86 3 3,L 9 23 8,N 10 (ln 9 23),N 11 (.move (K 0))] (cW 0 Gk)) Uv
abbrev f82:=cX [N 3 (bx 86 1)] Uw
theorem ae6:fE 82 f82 60 []:=fR
abbrev Lg:=cC (T 4) (cR [M 5 0,M 6 0,N 7 (iN 6),N 8 (.slice 9 (.const (.string ⟨#[48,49,50,51,52,53,54,55,56,57,97,98,99,100,101,102,103,104,105,106,107,108,109,110,111,112,113,114,115,116,117,118,119,120,121,122]⟩)) (some (T 5)) (some (T 7)) none),A 2 8]) .skip
abbrev Lh:=cR [M 9 0,N 10 (bk .mul 3 9 2 3),M 11 0,N 12 (bk .mul 3 11 2 3),N 13 (bk .add 3 12 2 3),N 14 (.slice 9 (.const (.string ⟨#[48,48,48,49,48,50,48,51,48,52,48,53,48,54,48,55,48,56,48,57,49,48,49,49,49,50,49,51,49,52,49,53,49,54,49,55,49,56,49,57,50,48,50,49,50,50,50,51,50,52,50,53,50,54,50,55,50,56,50,57,51,48,51,49,51,50,51,51,51,52,51,53,51,54,51,55,51,56,51,57,52,48,52,49,52,50,52,51,52,52,52,53,52,54,52,55,52,56,52,57,53,48,53,49,53,50,53,51,53,52,53,53,53,54,53,55,53,56,53,57,54,48,54,49,54,50,54,51,54,52,54,53,54,54,54,55,54,56,54,57,55,48,55,49,55,50,55,51,55,52,55,53,55,54,55,55,55,56,55,57,56,48,56,49,56,50,56,51,56,52,56,53,56,54,56,55,56,56,56,57,57,48,57,49,57,50,57,51,57,52,57,53,57,54,57,55,57,56,57,57]⟩)) (some (T 10)) (some (T 13)) none),A 2 14]
abbrev Li:=cS (cX [M 3 0,N 4 (bk .lss 3 3 10 3)] Lg) Lh
abbrev YR:=cX [N 2 (.assign (.const (.string ByteArray.empty)))] Li
theorem Xh:fE 149 YR 15 [.tmp 2]:=fR
end Go.Proofs.YtofbhlhamfkljaaGreatDoor.Ve
namespace Go.Proofs.YtofbhlhamfkljaaGreatDoor.Ve
open Go Go.RowKit
theorem kF(H:d9)(b:Nat)(B:Blk)(j:Nat):(H.put b B).get j=if j=b then(if j<H.next then some B else none) else H.get j:=by
 by_cases h:j=b
 .subst h;rw[if_pos rfl];by_cases u:j<H.next
  .rw[if_pos u,i8 u]
  .rw[if_neg u];have:(H.put j B).next<=j:=by rw[j5];omega
   exact List.getElem?_eq_none this
 .rw[if_neg h,i9 (fun q=>h q.symm)]
theorem jk(H:d9)(B:Blk)(j:Nat):(H.push B).get j=if j=H.next then some B else H.get j:=by
 by_cases h:j=H.next
 .subst h;rw[if_pos rfl];exact i7
 .rw[if_neg h];by_cases D:j<H.next
  .exact j6 D
  .have u:(H.push B).next<=j:=by rw[i5];omega
   have y:H.next<=j:=oM;have z:(H.push B).get j=none:=List.getElem?_eq_none u;have E:H.get j=none:=List.getElem?_eq_none y;rw[z,E]
theorem qL{H K:d9}(h:H.low=K.low)(u:∀j,H.get j=K.get j):H=K:=by
 obtain⟨a,b⟩:=H;obtain⟨c,d⟩:=K;simp only at h;subst h
 congr 1
 exact List.ext_getElem? u
def Z3(w:Value)(H:d9):d9:=
 match w with
 | .slice (some a) n c=>if c=n then H else H.put a.block .dead
 |_=>H
theorem V1(w:Value)(H:d9):(Z3 w H).next=H.next:=by
 unfold Z3;split
 .split
  .rfl
  .rw[j5]
 .rfl
theorem kg{P:Program}{t e:TypeId}{bytes lo sz n k:Nat}{z cs el:LV}{H:d9}{w:Value}{a:Option Addr}(X:P.underlying t=some (.slice e))(hs:z9 P e=some sz)(I:A7 P e=some bytes)(O:B8 P e=some z)(h0:0<sz)(h1:0<bytes)
  (h:aP H lo sz w n cs) (hx:dl H sz (.slice a 1 k)=some el) (J:(n+1)*bytes<=140737488355328):
  fb P H [t,t] w (.slice a 1 k)=some (.slice (some ⟨H.next,0,none⟩) (n+1) (n+1+1),some ((Z3 w H).push (.cells (cs++el) true sz))):=by
 have D:I2 P t=some e:=by simp [I2,X]
 have u:Z4 P H sz (some t) (.slice a 1 k)=some (1,el):=by
  simp only[Z4,Option.bind_some,X,hx,Option.map_some]
 have y:¬(sz=0\/bytes=0):=oM;rcases h with⟨rfl,rfl,rfl⟩|⟨b,c,rfl,U,a1,W⟩
 .simp only[fb,List.head?_cons,Option.bind_some,D,hs,I,O,List.getElem?_cons_succ,List.getElem?_cons_zero,if_neg y,u,Z3];rw[if_neg oM,if_pos (by simpa using J)];simp
 .have E:((cs.drop 0).take (n*sz))=cs:=by rw[List.drop_zero,List.take_of_length_le oM]
  by_cases S:c=n
  .simp only[fb,List.head?_cons,Option.bind_some,D,hs,I,O,List.getElem?_cons_succ,List.getElem?_cons_zero,if_neg y,u,U,E,Z3,if_pos S];rw[if_neg oM,if_pos J,if_pos (by simp;omega)]
  .simp only[fb,List.head?_cons,Option.bind_some,D,hs,I,O,List.getElem?_cons_succ,List.getElem?_cons_zero,if_neg y,u,U,E,Z3,if_neg S];rw[if_neg oM,if_pos J,if_pos (by simp;omega),if_pos trivial]
theorem wP(H:d9)(w:Value)(h:Nat)(z c1 c2 D E B1 I N:Blk)(S:h<H.next)(U:∀b,j9 w b->b<H.next/\b≠h) (hs:∀a n c,w= .slice (some a) n c->j9 w a.block):
  L9 H.next (((Z3 w ((((H.push z).put H.next c1).put H.next c2).push D)).push B1).put h N)=L9 H.next ((((Z3 w ((((H.push z).put H.next c2).put H.next c1).push E)).push I).put h N).put (H.next+2) B1):=by
 have key:(Z3 w=fun H=>H)\/∃b,b<H.next/\b≠h/\Z3 w=fun H=>H.put b .dead:=by
  cases w with
  |slice a n c=>
   cases a with
   |none=>left;rfl
   |some a=>
    by_cases y:c=n
    .left;funext H;simp [Z3,y]
    .right
     have:=U _ (hs a n c rfl);exact⟨a.block,this.1,this.2,by funext H;simp [Z3,y]⟩
  |_=>left;rfl
 rcases key with u|⟨b,J,O,u⟩
 .rw[u];refine qL ?_ fun j=>?_
  .simp only[L9,A4,O7];omega
  .simp only[L9,kF,jk,j5,i5]
   repeat' split
   all_goals first|rfl|omega
 .rw[u];refine qL ?_ fun j=>?_
  .simp only[L9,A4,O7];omega
  .simp only[L9,kF,jk,j5,i5]
   repeat' split
   all_goals first|rfl|omega
end Go.Proofs.YtofbhlhamfkljaaGreatDoor.Ve
namespace Go.Proofs.YtofbhlhamfkljaaGreatDoor.Ve
open Go Go.RowKit
open Go.Proofs.Tryz (prog)
theorem QR.upTo{H:d9}{lo k:Nat}{f:Bool}{cs:LV}{q:Q}(h:QR H lo k f cs q):∀{K:Nat},k<=K->QR H lo K f cs q:=by
 intro K;induction K with
 |zero=>
  intro z;have u:k=0:=oM;subst u;exact h
 |succ K E=>
  intro z;by_cases D:k<=K
  .exact(E D).up
  .have y:k=K+1:=oM;subst y;exact h
def aF(acc:List Q)(x:Q):List Q:=if acc.any (fun y=>M0 x y) then acc else acc++[x]
theorem XE(k:Nat)(H:d9)(lo W:Nat)(h el:LV)(x y:Q)(a2:lo<=H.next)(X:H.get W=cE h 1)(U:QR H lo k false h x)(I:QR H lo k false el y):
  CL prog O8 105 [.agg el.toArray,pT W] H=some (.bool (M0 x y),none):=by
 have a0:el.all oC=true:=F0 I;have u:=M8 U;have z:=M8 I;rw[U.len]at u;rw[I.len]at z;simp only[qSz,bF]at u z;obtain⟨J,D,-,g1,E⟩:=pushF H (bC el 1);have n1:=E.next;have S:=u6 X;have gx:J.get W=cE h 1:=(E.get _ S).trans X;have a1:H.next<=J.low:=by rw[D,O7];exact lR
 have O:=(fw k).1 J lo h el x y oM (U.mono (fun j hj=>E.get j oM) lR) (I.mono (fun j hj=>E.get j oM) lR);rw[j8 Wv rfl _ sM];exact J7 a0 D.symm g1 gx u z O trivial
structure fj(lo K pm:Nat)(w0:Value)(acc0:List Q)(H0 H:d9)(acc:List Q):Prop where
 ex:∃w,H.get pm=cE [w] 1/\t7 H (pm+1) 3 (QR H0 lo K false) w acc/\((acc=acc0/\w=w0)\/H.low<=pm)/\(∀j,j<H0.next->j≠pm->¬j9 w0 j->H.get j=H0.get j)/\(∀b,j9 w b->j9 w0 b\/H0.next<=b)
 stay:i4 pm H0 H
def al2(fn:Nat)(f:Bool)(k:Nat):Prop:=∀(H:d9)(lo pm K:Nat)(w:Value)(acc:List Q)(cs:LV)(q:Q),k<=K->lo<=pm->H.get pm=cE [w] 1->t7 H (pm+1) 3 (QR H lo K false) w acc->QR H lo k f cs q->OkD f q->acc.length+nQ q<=100000->
 Ret (CL prog O8 fn [pT pm,.agg cs.toArray] H) H fun v H1=>v=undef/\fj lo K pm w acc H H1 ((inQ f q).foldl aF acc)/\H1.low<=H.low
theorem bw(l:List Q):∀h:List Q,(l.foldl aF h).length<=h.length+l.length:=by
 induction l with
 |nil=>intro h;simp
 |cons x l u=>
  intro h;have:=u (aF h x);rw[List.foldl_cons,List.length_cons];have y:(aF h x).length<=h.length+1:=by unfold aF;split<;>simp
  omega
theorem kM(f:Bool)(l:List Q)(i:Nat)(x:Q)(h:l.drop i=x::l.drop (i+1)):inL f (l.drop i)=inQ f x++inL f (l.drop (i+1)):=by rw[h,inL]
theorem Nd(k:Nat)(ih:al2 58 false k)(H0:d9)(lo I K:Nat)(hk:k<=K)(b6:lo<=I)(w0:Value)(y:List Q)(va:Option Addr)(ca:Nat)(l:List Q)(hv:QsR H0 lo k false (.slice va l.length ca) l)(hn:l.length<=1048576)(hw:∀x∈l,OkD false x) (p3:Value) (a7:List Q):
  ∀kk e H2,(∃(i:Nat)(u:List Q),kk=l.length-i/\i<=l.length/\e.get 0=pT I/\e.get 3=p3/\e.get 9= .slice va l.length ca/\e.get 10=iV l.length/\e.get 11=iV i/\fj lo K I w0 y H0 H2 u/\u.length+nL (l.drop i)<=100000/\(inL false (l.drop i)).foldl aF u=a7)->
  u9 (LE prog O8 (.loop FQ) e H2) (fun o e H2=>o= .exit 0/\e.get 0=pT I/\e.get 3=p3/\fj lo K I w0 y H0 H2 a7):=by
 refine j7 _ _ ?_;rintro kk e H2 ⟨i,u,c3,hi,f0,f3,fL,fM,fJ,hM,z,fu⟩;rcases b:decide ((i:Int)<l.length)with _|_
 .have b1:=dF b;have:l.drop i=[]:=dN oM;rw[this,inL,List.foldl_nil]at fu;refine J3 fM fJ b ?_;exact l7 ⟨rfl,f0,f3,by rw[<-fu];exact hM⟩
 have b1:=dT b;obtain⟨⟨w,a2,hO,b7,X,D⟩,hS⟩:=hM;have c6:=hS.next;have c7:=u6 a2;obtain⟨x,nb,o,cs,own,el,hx,hd,rfl,c5,hg,b5,E,hr⟩:=hv.row (i:=i) oM;have a4:=mG hx;have nt:(i:Int).toNat=i:=tN i;simp only[qSz,if_true,bF]at E hg b5;rw[kM _ _ _ _ hd,List.foldl_append]at fu;have b3:u.length+(nQ x+nL (l.drop (i+1)))<=100000:=by rw[hd,nL]at z;exact z
 have a1:el.all oC=true:=F0 hr;have e1:=hr.len;simp only[qSz,if_true,bF]at e1;have a5:=M8 hr;rw[e1]at a5;have gx:=(hS.get nb oM).trans hg;obtain⟨H3,W,n3,g3,s3⟩:=pushP H2 (bC [iV 0,nS,nS] 1) (bC el 1);have l3:H3.low<=H2.low:=by rw[W,A4,O7];omega
 have b8:splice [iV 0,nS,nS] 0 el=el:=w7 _ _ (by rw[e1];rfl);have J:∀j,j<lo->H3.get j=H0.get j:=fun j hj=>by rw[s3.get j oM,hS.get j oM]
 have b9:∀{cs:LV}{q:Q},QR H3 lo K false cs q->QR H0 lo K false cs q:=fun h=>h.mono (fun j hj=>(J j hj).symm) lR;obtain⟨v4,h4,H4,b2,b4,rfl,⟨⟨w4,a8,a9,a3,O,S⟩,b0⟩,c4⟩:=ih H3 lo I K w u el x hk b6 ((s3.get I oM).trans a2) ((hO.keep s3).imp fun cs q h=>h.mono J lR) (hr.mono J lR) (hw x a4) oM;have U:∀j,j<H0.next->j≠I->¬j9 w0 j->H4.get j=H0.get j:=fun j hj h1 h2=>by
  rw[O j oM h1 (fun q=>by rcases D j q with r|r;exact h2 r;omega),s3.get j oM,X j hj h1 h2]
 have a6:∀b,j9 w4 b->j9 w0 b\/H0.next<=b:=fun b hb=>by
  rcases S b hb with r|r
  .exact D b r
  .exact .inr oM
 have hl:=bw (inQ false x) u;have c0:=(bH _ false x lR (hw x a4)).1;refine J17 f0 fL fM fJ b gx nt E a1 e1 b8 W.symm g3 a5 b2 b4 @wrap_small ?_;refine i6 (kk-1) oM ⟨i+1,_,oM,oM,f0,f3,fL,fM,rfl,⟨⟨w4,a8,a9.imp fun cs q h=>b9 h,?_,U,a6⟩,(hS.trans (s3.weaken oM)).trans b0⟩,oM,fu⟩;rcases a3 with⟨q1,q2⟩|q
 .rcases b7 with⟨q3,q4⟩|q
  .exact .inl ⟨by rw[q1,q3],by rw[q2,q4]⟩
  .exact .inr oM
 .exact .inr q
theorem Nf(k:Nat)(ih:al2 82 true k)(H0:d9)(lo I K:Nat)(hk:k<=K)(b6:lo<=I)(w0:Value)(y:List Q)(va:Option Addr)(ca:Nat)(l:List Q)(hv:QsR H0 lo k true (.slice va l.length ca) l)(hn:l.length<=1048576)(hw:∀x∈l,OkD true x) (p3:Value) (a7:List Q):
  ∀kk e H2,(∃(i:Nat)(u:List Q),kk=l.length-i/\i<=l.length/\e.get 0=pT I/\e.get 3=p3/\e.get 20= .slice va l.length ca/\e.get 21=iV l.length/\e.get 22=iV i/\fj lo K I w0 y H0 H2 u/\u.length+nL (l.drop i)<=100000/\(inL true (l.drop i)).foldl aF u=a7)->
  u9 (LE prog O8 (.loop FR) e H2) (fun o e H2=>o= .exit 2/\e.get 0=pT I/\e.get 3=p3/\fj lo K I w0 y H0 H2 a7):=by
 refine j7 _ _ ?_;rintro kk e H2 ⟨i,u,c3,hi,f0,f3,fL,fM,fJ,hM,z,fu⟩;rcases b:decide ((i:Int)<l.length)with _|_
 .have b1:=dF b;have:l.drop i=[]:=dN oM;rw[this,inL,List.foldl_nil]at fu;refine J3 fM fJ b ?_;exact l7 ⟨rfl,f0,f3,by rw[<-fu];exact hM⟩
 have b1:=dT b;obtain⟨⟨w,a2,hO,b7,X,D⟩,hS⟩:=hM;have c6:=hS.next;have c7:=u6 a2;obtain⟨x,nb,o,cs,own,el,hx,hd,rfl,c5,hg,b5,E,hr⟩:=hv.row (i:=i) oM;have a4:=mG hx;have nt:(i:Int).toNat=i:=tN i;simp only[qSz,if_true,bF]at E hg b5;rw[kM _ _ _ _ hd,List.foldl_append]at fu;have b3:u.length+(nQ x+nL (l.drop (i+1)))<=100000:=by rw[hd,nL]at z;exact z
 have a1:el.all oC=true:=F0 hr;have e1:=hr.len;simp only[qSz,if_true,bF]at e1;have a5:=M8 hr;rw[e1]at a5;have gx:=(hS.get nb oM).trans hg;obtain⟨H3,W,n3,g3,s3⟩:=pushP H2 (bC [iV 0,.string eB,.string eB,.string eB,nS,nS] 1) (bC el 1);have l3:H3.low<=H2.low:=by rw[W,A4,O7];omega
 have b8:splice [iV 0,.string eB,.string eB,.string eB,nS,nS] 0 el=el:=w7 _ _ (by rw[e1];rfl);have J:∀j,j<lo->H3.get j=H0.get j:=fun j hj=>by rw[s3.get j oM,hS.get j oM]
 have b9:∀{cs:LV}{q:Q},QR H3 lo K false cs q->QR H0 lo K false cs q:=fun h=>h.mono (fun j hj=>(J j hj).symm) lR;obtain⟨v4,h4,H4,b2,b4,rfl,⟨⟨w4,a8,a9,a3,O,S⟩,b0⟩,c4⟩:=ih H3 lo I K w u el x hk b6 ((s3.get I oM).trans a2) ((hO.keep s3).imp fun cs q h=>h.mono J lR) (hr.mono J lR) (hw x a4) oM;have U:∀j,j<H0.next->j≠I->¬j9 w0 j->H4.get j=H0.get j:=fun j hj h1 h2=>by
  rw[O j oM h1 (fun q=>by rcases D j q with r|r;exact h2 r;omega),s3.get j oM,X j hj h1 h2]
 have a6:∀b,j9 w4 b->j9 w0 b\/H0.next<=b:=fun b hb=>by
  rcases S b hb with r|r
  .exact D b r
  .exact .inr oM
 have hl:=bw (inQ true x) u;have c0:=(bH _ true x lR (hw x a4)).1;refine J17 f0 fL fM fJ b gx nt E a1 e1 b8 W.symm g3 a5 b2 b4 @wrap_small ?_;refine i6 (kk-1) oM ⟨i+1,_,oM,oM,f0,f3,fL,fM,rfl,⟨⟨w4,a8,a9.imp fun cs q h=>b9 h,?_,U,a6⟩,(hS.trans (s3.weaken oM)).trans b0⟩,oM,fu⟩;rcases a3 with⟨q1,q2⟩|q
 .rcases b7 with⟨q3,q4⟩|q
  .exact .inl ⟨by rw[q1,q3],by rw[q2,q4]⟩
  .exact .inr oM
 .exact .inr q
theorem Ng(k:Nat)(ih:al2 82 true k)(H0:d9)(lo I K:Nat)(hk:k<=K)(b6:lo<=I)(w0:Value)(y:List Q)(va:Option Addr)(ca:Nat)(l:List Q)(hv:QsR H0 lo k true (.slice va l.length ca) l)(hn:l.length<=1048576)(hw:∀x∈l,OkD true x) (p3:Value) (a7:List Q):
  ∀kk e H2,(∃(i:Nat)(u:List Q),kk=l.length-i/\i<=l.length/\e.get 0=pT I/\e.get 3=p3/\e.get 9= .slice va l.length ca/\e.get 10=iV l.length/\e.get 11=iV i/\fj lo K I w0 y H0 H2 u/\u.length+nL (l.drop i)<=100000/\(inL true (l.drop i)).foldl aF u=a7)->
  u9 (LE prog O8 (.loop Gk) e H2) (fun o e H2=>o= .exit 0/\e.get 0=pT I/\e.get 3=p3/\fj lo K I w0 y H0 H2 a7):=by
 refine j7 _ _ ?_;rintro kk e H2 ⟨i,u,c3,hi,f0,f3,fL,fM,fJ,hM,z,fu⟩;rcases b:decide ((i:Int)<l.length)with _|_
 .have b1:=dF b;have:l.drop i=[]:=dN oM;rw[this,inL,List.foldl_nil]at fu;refine J3 fM fJ b ?_;exact l7 ⟨rfl,f0,f3,by rw[<-fu];exact hM⟩
 have b1:=dT b;obtain⟨⟨w,a2,hO,b7,X,D⟩,hS⟩:=hM;have c6:=hS.next;have c7:=u6 a2;obtain⟨x,nb,o,cs,own,el,hx,hd,rfl,c5,hg,b5,E,hr⟩:=hv.row (i:=i) oM;have a4:=mG hx;have nt:(i:Int).toNat=i:=tN i;simp only[qSz,if_true,bF]at E hg b5;rw[kM _ _ _ _ hd,List.foldl_append]at fu;have b3:u.length+(nQ x+nL (l.drop (i+1)))<=100000:=by rw[hd,nL]at z;exact z
 have a1:el.all oC=true:=F0 hr;have e1:=hr.len;simp only[qSz,if_true,bF]at e1;have a5:=M8 hr;rw[e1]at a5;have gx:=(hS.get nb oM).trans hg;obtain⟨H3,W,n3,g3,s3⟩:=pushP H2 (bC [iV 0,.string eB,.string eB,.string eB,nS,nS] 1) (bC el 1);have l3:H3.low<=H2.low:=by rw[W,A4,O7];omega
 have b8:splice [iV 0,.string eB,.string eB,.string eB,nS,nS] 0 el=el:=w7 _ _ (by rw[e1];rfl);have J:∀j,j<lo->H3.get j=H0.get j:=fun j hj=>by rw[s3.get j oM,hS.get j oM]
 have b9:∀{cs:LV}{q:Q},QR H3 lo K false cs q->QR H0 lo K false cs q:=fun h=>h.mono (fun j hj=>(J j hj).symm) lR;obtain⟨v4,h4,H4,b2,b4,rfl,⟨⟨w4,a8,a9,a3,O,S⟩,b0⟩,c4⟩:=ih H3 lo I K w u el x hk b6 ((s3.get I oM).trans a2) ((hO.keep s3).imp fun cs q h=>h.mono J lR) (hr.mono J lR) (hw x a4) oM;have U:∀j,j<H0.next->j≠I->¬j9 w0 j->H4.get j=H0.get j:=fun j hj h1 h2=>by
  rw[O j oM h1 (fun q=>by rcases D j q with r|r;exact h2 r;omega),s3.get j oM,X j hj h1 h2]
 have a6:∀b,j9 w4 b->j9 w0 b\/H0.next<=b:=fun b hb=>by
  rcases S b hb with r|r
  .exact D b r
  .exact .inr oM
 have hl:=bw (inQ true x) u;have c0:=(bH _ true x lR (hw x a4)).1;refine J17 f0 fL fM fJ b gx nt E a1 e1 b8 W.symm g3 a5 b2 b4 @wrap_small ?_;refine i6 (kk-1) oM ⟨i+1,_,oM,oM,f0,f3,fL,fM,rfl,⟨⟨w4,a8,a9.imp fun cs q h=>b9 h,?_,U,a6⟩,(hS.trans (s3.weaken oM)).trans b0⟩,oM,fu⟩;rcases a3 with⟨q1,q2⟩|q
 .rcases b7 with⟨q3,q4⟩|q
  .exact .inl ⟨by rw[q1,q3],by rw[q2,q4]⟩
  .exact .inr oM
 .exact .inr q
def inB(l:List Q):List Q:=l.flatMap fun x=>inQ false x++[x]
theorem rP(cs:LV)(x y z a b c:Value):splice (cs++[x,y,z]) cs.length [a,b,c]=cs++[a,b,c]:=by
 simp only[splice];rw[List.set_append_right _ _ oM,List.set_append_right _ _ oM,List.set_append_right _ _ oM];rw[show cs.length-cs.length=0 from oM,show cs.length+1-cs.length=1 from oM,show cs.length+1+1-cs.length=2 from oM];rfl
theorem Nh(k:Nat)(ih:al2 58 false k)(H0:d9)(lo D K:Nat)(hk:k<=K)(l6:lo<=D)(w0:Value)(a5:List Q)(va:Option Addr)(ca:Nat)(l:List Q)(hv:QsR H0 lo k false (.slice va l.length ca) l)(hn:l.length<=1048576)(hw:∀x∈l,OkD false x) (j3:List Q):
  ∀kk e H2,(∃(i:Nat)(U:List Q),kk=l.length-i/\i<=l.length/\e.get 0=pT D/\e.get 20= .slice va l.length ca/\e.get 21=iV l.length/\e.get 22=iV i/\fj lo K D w0 a5 H0 H2 U/\U.length+nL (l.drop i)<=100000/\(inB (l.drop i)).foldl aF U=j3)->
  u9 (LE prog O8 (.loop Gl) e H2) (fun o e H2=>o= .exit 2/\fj lo K D w0 a5 H0 H2 j3):=by
 refine j7 _ _ ?_;rintro kk e H2 ⟨i,U,n7,hi,f0,fL,fM,fJ,hM,c6,fu⟩;rcases b:decide ((i:Int)<l.length)with _|_
 .have k8:=dF b;have:l.drop i=[]:=dN oM;rw[this,inB,List.flatMap_nil,List.foldl_nil]at fu;refine J3 fM fJ b ?_;exact l7 ⟨rfl,by rw[<-fu];exact hM⟩
 have k8:=dT b;obtain⟨⟨w,h8,hO,l8,h5,c7⟩,hS⟩:=hM;have o0:=hS.next;have o1:=u6 h8;obtain⟨x,nb,o,cs,own,el,hx,hd,rfl,n9,hg,l4,b6,hr⟩:=hv.row (i:=i) oM;have i3:=mG hx;have nt:(i:Int).toNat=i:=tN i;simp only[qSz,if_true,bF]at b6 hg l4;rw[hd,inB,List.flatMap_cons,List.foldl_append,List.foldl_append,List.foldl_cons,List.foldl_nil]at fu;have k9:U.length+(nQ x+nL (l.drop (i+1)))<=100000:=by rw[hd,nL]at c6;exact c6
 have a1:el.all oC=true:=F0 hr;have e1:=hr.len;simp only[qSz,if_true,bF]at e1;have e2:=M8 hr;rw[e1]at e2;have gx:=(hS.get nb oM).trans hg;obtain⟨H3,d3,n3,g3,s3⟩:=pushP H2 (bC [iV 0,nS,nS] 1) (bC el 1);have l3:H3.low<=H2.low:=by rw[d3,A4,O7];omega
 have j4:splice [iV 0,nS,nS] 0 el=el:=w7 _ _ (by rw[e1];rfl);have b7:∀j,j<lo->H3.get j=H0.get j:=fun j S=>by rw[s3.get j oM,hS.get j oM]
 have m9:∀{cs:LV}{q:Q},QR H3 lo K false cs q->QR H0 lo K false cs q:=fun h=>h.mono (fun j S=>(b7 j S).symm) lR;obtain⟨v4,h4,z,h6,h7,rfl,⟨⟨w4,O,g9,c8,b4,b5⟩,d4⟩,n8⟩:=ih H3 lo D K w U el x hk l6 ((s3.get D oM).trans h8) ((hO.keep s3).imp fun cs q h=>h.mono b7 lR) (hr.mono b7 lR) (hw x i3) oM;have c3:∀j,j<H0.next->j≠D->¬j9 w0 j->z.get j=H0.get j:=fun j S h1 h2=>by
  rw[b4 j oM h1 (fun q=>by rcases c7 j q with r|r;exact h2 r;omega),s3.get j oM,h5 j S h1 h2]
 have c9:∀b,j9 w4 b->j9 w0 b\/H0.next<=b:=fun b hb=>by
  rcases b5 b hb with r|r
  .exact c7 b r
  .exact .inr oM
 have hl:=bw (inQ false x) U;have n6:=(bH _ false x lR (hw x i3)).1;obtain⟨u,d5⟩:=eY ((inQ false x).foldl aF U);rw[<-d5]at fu g9 c8 hl;have n4:=d4.next;have g4:z.get H2.next=cE el 1:=(b4 _ oM oM (fun q=>by have:=hO.lt q;omega)).trans g3;have e8:∀j,j<lo->z.get j=H0.get j:=fun j S=>by rw[d4.get j oM,b7 j S]
 have E:t7 z (D+1) 3 (QR H0 lo K false) w4 u:=g9.imp fun cs q h=>m9 h;have i0:(u=a5/\w4=w0)\/z.low<=D:=by
  rcases c8 with⟨q1,q2⟩|q
  .rcases l8 with⟨q3,q4⟩|q
   .exact .inl ⟨by rw[q1,q3],by rw[q2,q4]⟩
   .exact .inr oM
  .exact .inr q
 have c5:=(hS.trans (s3.weaken oM)).trans d4;obtain⟨a4,c4,e9⟩:=E.slice;have X:=kJ (α:=Q) z (· <z.next) (QR z lo K false) (.func (.func 105) #[] #[pT H2.next]) (fun y=>M0 x y) w4 u ((E.frz fun b hb=>(E.lt hb).2).mono (fun _ _=>rfl) (fun _ h=>h) (fun _ _ h=>h.mono e8 lR)) oM (fun i y k0 hy m0=>XE K _ lo H2.next el k0 x y (show lo<=z.next from oM) g4 ((hr.upTo hk).mono (H':=⟨z.bs,z.next⟩) (fun j S=>e8 j S) lR) (m0.mono (H:=z) (H':=⟨z.bs,z.next⟩) (fun _ _=>rfl) lR));rcases b2:u.any (fun y=>M0 x y)with _|_
 .rw[b2]at X;have b3:aF u x=u++[x]:=by rw[aF,b2];rfl
  rw[b3]at fu;have h0:=E;obtain⟨J,d2,h3⟩:=h0;obtain⟨K0,b0⟩:=eY (((z.push (bC [.bool false] 1)).put z.next (bC [.bool true] 1)).put z.next (bC [.bool false] 1));obtain⟨J0,a6⟩:=eY (((z.push (bC [.bool false] 1)).put z.next (bC [.bool false] 1)).put z.next (bC [.bool true] 1));have m3:K0.next=z.next+1:=by rw[b0,j5,j5,i5]
  have m1:J0.next=z.next+1:=by rw[a6,j5,j5,i5]
  have e6:i4 z.next z K0:=by rw[b0];exact((i4.push lR).trans (i4.put lR)).trans (i4.put lR)
  have e5:i4 z.next z J0:=by rw[a6];exact((i4.push lR).trans (i4.put lR)).trans (i4.put lR)
  have k2:K0.get z.next=cE [.bool false] 1:=by rw[b0];exact i8 (by rw[j5,i5];omega)
  have k1:J0.get z.next=cE [.bool true] 1:=by rw[a6];exact i8 (by rw[j5,i5];omega)
  have I:=u6 O;have g0:=(e6.get D I).trans O;have f1:=(e5.get D I).trans O;have g7:=(e6.get H2.next oM).trans g4;have n1:=(e5.get H2.next oM).trans g4;obtain⟨K1,b1⟩:=eY (K0.push (bC el 3));obtain⟨J1,a7⟩:=eY (J0.push (bC [iV 0,nS,nS] 3));have e4:K1.next=z.next+2:=by rw[b1,i5,m3]
  have e3:J1.next=z.next+2:=by rw[a7,i5,m1]
  have c0:i4 z.next z K1:=by rw[b1];exact e6.trans (i4.push oM)
  have b9:i4 z.next z J1:=by rw[a7];exact e5.trans (i4.push oM)
  have g1:=(c0.get D I).trans O;have n0:=(b9.get D I).trans O;have n2:=(b9.get H2.next oM).trans g4;have m7:dl K1 3 (sL K0.next 1 1)=some el:=by
   have:K1.get K0.next=cE el 3:=by rw[b1];exact i7
   simp only[dl,this,e1];simp [List.take_of_length_le (by omega:el.length<=3)]
  have m6:dl J1 3 (sL J0.next 1 1)=some [iV 0,nS,nS]:=by
   have:J1.get J0.next=cE [iV 0,nS,nS] 3:=by rw[a7];exact i7
   simp only[dl,this];simp
  have d1:=kg (P:=prog) (t:=22) (by exact jL.2.2.2.2.2.2) X8.1 X8.2.1 X8.2.2.1 oM oM (d2.mono (H':=K1) lR (fun j S=>c0.get j S)) m7 oM;have d0:=kg (P:=prog) (t:=22) (by exact jL.2.2.2.2.2.2) X8.1 X8.2.1 X8.2.2.1 oM oM (d2.mono (H':=J1) lR (fun j S=>b9.get j S)) m6 oM;obtain⟨K2,a3⟩:=eY ((Z3 w4 K1).push (bC (J++el) 3));obtain⟨J2,a8⟩:=eY ((Z3 w4 J1).push (bC (J++[iV 0,nS,nS]) 3));rw[<-a3,e4]at d1;rw[<-a8,e3]at d0;have a2:J.length=u.length*3:=h3.1;have i2:∀b,j9 w4 b->b<z.next/\b≠D:=fun b hb=>oN (E.lt hb);have d8:∀a n c,w4= .slice (some a) n c->j9 w4 a.block:=fun a n c h=>by
   rcases d2 with⟨q,_⟩|⟨b,c',q,_⟩
   .rw[q]at h;cases h
   .rw[q]at h ⊢;cases h;exact⟨_,_,rfl⟩
  have kW:∀(H:d9) j,j<H.next->¬j9 w4 j->(Z3 w4 H).get j=H.get j:=fun H j S hb=>by
   unfold Z3;split
   .rename_i a n c;split
    .rfl
    .rw[i9 (fun q=>hb (by rw[<-q];exact d8 a n c rfl))]
   .rfl
  have m4:K2.next=z.next+3:=by rw[a3,i5,V1,e4]
  have m2:J2.next=z.next+3:=by rw[a8,i5,V1,e3]
  have j2:∀j,j<z.next->¬j9 w4 j->K2.get j=z.get j:=fun j S hb=>by rw[a3,j6 (by rw[V1];omega),kW K1 j oM hb,c0.get j S]
  have j1:∀j,j<z.next->¬j9 w4 j->J2.get j=z.get j:=fun j S hb=>by rw[a8,j6 (by rw[V1];omega),kW J1 j oM hb,b9.get j S]
  have j0:¬j9 w4 D:=fun q=>(i2 D q).2 rfl;have m5:¬j9 w4 H2.next:=fun q=>by
   rcases b5 _ q with r|r
   .have:=hO.lt r;omega
   .omega
  have g2:=(j2 D I j0).trans O;have f2:=(j1 D I j0).trans O;obtain⟨w5,d6⟩:=eY (Value.slice (sP (z.next+2)) (u.length+1) (u.length+1+1));obtain⟨K3,W⟩:=eY (K2.put D (bC [sL (z.next+2) (u.length+1) (u.length+1+1)] 1));obtain⟨J3,a9⟩:=eY (J2.put D (bC [sL (z.next+2) (u.length+1) (u.length+1+1)] 1));have o4:K3.next=z.next+3:=by rw[W,j5,m4]
  have o3:J3.next=z.next+3:=by rw[a9,j5,m2]
  have g6:J3.get H2.next=cE el 1:=by rw[a9,i9 oM,j1 _ oM m5];exact g4
  have g5:J3.get (z.next+2)=cE (J++[iV 0,nS,nS]) 3:=by
   rw[a9,i9 oM,a8,R2 (by rw[V1,e3];omega)]
  have m8:splice (J++[iV 0,nS,nS]) (u.length*3) el=J++el:=by
   rw[<-a2]
   match el,e1 with
   |[a,b,c],_=>exact rP _ _ _ _ _ _ _
  obtain⟨J4,g8⟩:=eY (J3.put (z.next+2) (bC (J++el) 3));have l1:L9 z.next K3=L9 z.next J4:=by
   rw[W,a3,b1,b0,g8,a9,a8,a7,a6];exact wP z w4 D _ _ _ _ _ _ _ _ I i2 d8
  have h9:=eq_true l1;have nl:(u.length:Int).toNat=u.length:=Int.toNat_natCast _;have lz:(J++[iV 0,nS,nS]).length=u.length*3+3:=by simp [a2]
  have n5:decide ((u.length:Int)<((u.length+1:Nat):Int))=true:=decide_eq_true oM;have o2:(0:Int)<=u.length:=oM;have e7:bsA prog (some 25) K0 1 [(0,.agg el.toArray)]=some (sL K0.next 1 1,K1):=by
   rw[b1];cases k with
   |zero=>exact hr.elim
   |succ k=>obtain⟨_,_,_,_,rfl,_⟩:=hr.path;simp only[C7,X8,C8];rfl
  rw[e9]at X d1 d0;refine J30 f0 fL fM fJ b gx nt b6 a1 e1 j4 d3.symm g3 e2 h6 h7 O (aI X b0.symm) (aI a6.symm k2) (aI k1 g0) (aI f1 g7) (aI a7.symm e7) (aI g1 e9) (aI d1 d0) (aI g2 f2) (aI W.symm a9.symm) (aI g6 g5) (aI nl lz) (aI m8 g8.symm) (aI h9 @wrap_small) ?_;obtain⟨Kf,b8⟩:=eY (L9 z.next K3);rw[<-b8];have gf:∀j,j≠z.next->j≠z.next+1->Kf.get j=K3.get j:=fun j h1 h2=>by rw[b8,L9,i9 (fun q=>h2 q.symm),i9 (fun q=>h1 q.symm)]
  have k3:∀j,j<z.next->j≠D->¬j9 w4 j->Kf.get j=z.get j:=fun j S h1 h2=>by rw[gf j oM oM,W,i9 (fun q=>h1 q.symm),j2 j S h2]
  have k5:Kf.get D=cE [w5] 1:=by rw[gf D oM oM,W,d6];exact i8 oM
  have k4:Kf.get (z.next+2)=cE (J++el) 3:=by
   rw[gf _ oM oM,W,i9 oM,a3,R2 (by rw[V1,e4];omega)]
  have i1:i4 D K1 (Z3 w4 K1):=by
   unfold Z3;split
   .rename_i a n c;split
    .exact i4.refl _ _
    .exact i4.put (oN (E.lt (d8 a n c rfl)))
   .exact i4.refl _ _
  have k7:i4 D z Kf:=by
   rw[b8,L9,W,a3];exact(((((c0.weaken oM).trans i1).trans (i4.push (by rw[V1];omega))).trans (i4.put lR)).trans (i4.put oM)).trans (i4.put oM)
  have l5:Kf.low<=D:=by rw[b8,L9,A4,A4,W,A4];omega
  have k6:t7 Kf (D+1) 3 (QR H0 lo K false) w5 (u++[x]):=⟨J++el,.inr ⟨z.next+2,u.length+1+1,by rw[d6];simp,k4,oM,by simp [a2,e1];omega⟩,h3.append (D2.one e1 (hr.upTo hk))⟩
  refine i6 (kk-1) oM ⟨i+1,u++[x],oM,oM,f0,fL,fM,rfl,⟨⟨w5,k5,k6,.inr l5,fun j S h1 h2=>?_,fun b hb=>?_⟩,c5.trans k7⟩,by rw[List.length_append,List.length_singleton];omega,fu⟩
  .rw[k3 j oM h1 (fun q=>by rcases c9 j q with r|r;exact h2 r;omega),c3 j S h1 h2]
  .rw[d6,I6]at hb;exact .inr oM
 .rw[b2]at X;have b3:aF u x=u:=by rw[aF,b2];rfl
  rw[b3]at fu;refine J19 f0 fL fM fJ b gx nt b6 a1 e1 j4 d3.symm g3 e2 h6 h7 O X @wrap_small ?_;exact i6 (kk-1) oM ⟨i+1,u,oM,oM,f0,fL,fM,rfl,⟨⟨w4,O,E,i0,c3,c9⟩,c5⟩,oM,fu⟩
theorem fj.low{lo K D:Nat}{w0:Value}{u y:List Q}{H0 H:d9}(h:fj lo K D w0 u H0 H y)(n:Nat)(W:n<=H.low)(U:∀k,k<=D->k<=H0.low->k<=n):fj lo K D w0 u H0 ⟨H.bs,n⟩ y:=by
 obtain⟨⟨w,I,J,z,O,S⟩,E⟩:=h;refine⟨⟨w,I,J.low n,?_,O,S⟩,E.next,U,E.get⟩;rcases z with z|z
 .exact .inl z
 .exact .inr (Nat.le_trans W z)
theorem vG{lo K E:Nat}{w:Value}{D y:List Q}{H z H':d9}(u:i4 H.next H z)(U:H.next<=z.low)(a1:lo<=E)(a2:E<H.next)(hg:H.get E=cE [w] 1)(hO:t7 H (E+1) 3 (QR H lo K false) w D)(h:fj lo K E w D z H' y):
  Ret (some (D4 undef H H')) H fun v z=>v=undef/\fj lo K E w D H z y/\z.low<=H.low:=by
 have n1:=u.next;obtain⟨⟨w',h1,h2,I,h4,h5⟩,O⟩:=h;have X:∀cs q,QR z lo K false cs q->QR H lo K false cs q:=fun _ _ h=>h.mono (fun j J=>(u.get j oM).symm) lR;refine D7 (fun _ hl=>⟨rfl,?_,lR⟩) ⟨rfl,?_,by show min H.low H'.low<=H.low;omega⟩
 .rcases I with⟨W,q2⟩|q
  .rw[W];exact⟨⟨w,hg,hO,.inl ⟨rfl,rfl⟩,fun _ _ _ _=>rfl,fun b S=> .inl S⟩,i4.refl _ _⟩
  .omega
 .have hn:=O.next;refine⟨⟨w',h1,(h2.imp X).low _,?_,fun j J W q2=>?_,fun b S=>?_⟩,by show H.next<=H'.next;omega,fun k hk q=>?_,fun j J=>?_⟩
  .rcases I with I|I
   .exact .inl I
   .exact .inr (by show min H.low H'.low<=E;omega)
  .show H'.get j=H.get j;rw[h4 j oM W q2,u.get j J]
  .rcases h5 b S with r|r
   .exact .inl r
   .exact .inr oM
  .have:=O.lowAll k hk oM;show k<=min H.low H'.low;omega
  .show H'.get j=H.get j;rw[O.get j J,u.get j oM]
theorem Ed{l:List Q}(h:l.length<=1):inL false l++l=inB l:=by
 match l,h with
 |[],_=>rfl
 |[x],_=>simp [inB,inL]
theorem XA(k:Nat)(a5:al2 58 false k)(a6:al2 82 true k):al2 58 false (k+1):=by
 intro H lo X K w u cs q hk E D hO hr a4 a9;obtain⟨W,a7,_⟩:=a4.parts;have b4:=dE q;have U:=u6 D;obtain⟨va,ca,wa,y,rfl,h1,h2,h3,h4⟩:=hr.path;obtain⟨I,J,-,hg,O⟩:=pushF H (bC [iV q.op,.slice va q.a.length ca,.slice wa q.b.length y] 1);have S:H.next<=I.low:=by rw[J,O7];exact lR
 have hn:=O.next;have b3:=u6 hg;have hm:∀j,j<lo->I.get j=H.get j:=fun j hj=>O.get j oM;have a8:fj lo K X w u I I u:=⟨⟨w,(O.get X U).trans D,(hO.keep O).imp fun _ _ h=>h.mono hm lR,.inl ⟨rfl,rfl⟩,fun _ _ _ _=>rfl,fun _ h=> .inl h⟩,i4.refl _ _⟩
 rw[j8 ac6 rfl _ sM,kN];refine J2 J.symm hg ?_;refine l9 (F:=fun z=>Ret (u5 _ _ _ (u7 (inBlock 0 z) _)) _ _) (Nd k a5 I lo X K oM E w u va ca q.a (h1.mono hm lR) h3 W (pT H.next) ((inL false q.a).foldl aF u) q.a.length _ _ ⟨0,u,rfl,oM,rfl,rfl,rfl,rfl,rfl,a8,by rw[List.drop_zero];omega,rfl⟩) ?_;rintro o e' H2 ⟨ho,g0,g3,hM⟩;have a2:=hM.stay;have b2:=a2.next;have a3:H2.get H.next=cE [iV q.op,.slice va q.a.length ca,.slice wa q.b.length y] 1:=by
  obtain⟨w',_,_,_,hb,_⟩:=hM.ex;exact(hb H.next oM oM (fun q=>by have:=hO.lt q;omega)).trans hg
 have b1:=bw (inL false q.a) u;have b0:(inL false q.a).length<=nL q.a:=by
  have:=gM q.a (inQ false) fun x hx=>(bH _ false x lR (W x hx)).1;rw[al1];omega
 refine J3 ho g3 a3 ?_;refine l9 (F:=fun z=>Ret (u5 _ _ _ (inBlock 2 z)) _ _) (Nf k a6 I lo X K oM E w u wa y q.b (h2.mono hm lR) h4 a7 (pT H.next) ((inL false q.a++inL true q.b).foldl aF u) q.b.length _ _ ⟨0,_,rfl,oM,g0,g3,rfl,rfl,rfl,hM,by rw[List.drop_zero];omega,by rw[List.drop_zero,List.foldl_append]⟩) ?_;rintro o e' H3 ⟨ho,g0,g3,a1⟩;refine J1 ho ?_;exact vG O S E U D hO a1
theorem MR(q:Q)(h:OkD true q):inQ true q=inL true q.a++inB q.b:=by
 obtain⟨_,_,_,_,z⟩:=h.parts;have u:=(dk z).2.2;simp only[if_true]at u;rw[fI];by_cases y:q.op=11
 .rw[if_pos y,Ed u.2]
 .rw[if_neg y];have:q.b=[]:=by
   have D:=u.2;have E:¬q.b.length=1:=fun r=>y (u.1.2 r);exact List.length_eq_zero_iff.1 oM
  rw[this];rfl
theorem XB(k:Nat)(a6:al2 82 true k)(a7:al2 58 false k):al2 82 true (k+1):=by
 intro H lo pm K w u cs q hk J I hO hr X b0;rw[MR q X];obtain⟨a2,a8,_⟩:=X.parts;have b5:=dE q;have a1:=u6 I;obtain⟨va,ca,wa,E,rfl,h1,h2,h3,h4,_⟩:=hr.filter;obtain⟨D,y⟩:=eY ([iV q.op,.string q.sp,.string q.lc,.string q.vl,.slice va q.a.length ca,.slice wa q.b.length E]:LV);obtain⟨O,S,-,hg,U⟩:=pushF H (bC D 1);have W:H.next<=O.low:=by rw[S,O7];exact lR
 have hn:=U.next;have b4:=u6 hg;have r4:D[4]?=some (.slice va q.a.length ca):=by rw[y];rfl
 have r5:D[5]?=some (.slice wa q.b.length E):=by rw[y];rfl
 have ar:D.all oC=true:=by rw[y];rfl
 have lr:D.length=6:=by rw[y];rfl
 rw[<-y];have hm:∀j,j<lo->O.get j=H.get j:=fun j hj=>U.get j oM;have a9:fj lo K pm w u O O u:=⟨⟨w,(U.get pm a1).trans I,(hO.keep U).imp fun _ _ h=>h.mono hm lR,.inl ⟨rfl,rfl⟩,fun _ _ _ _=>rfl,fun _ h=> .inl h⟩,i4.refl _ _⟩
 rw[j8 ae6 rfl _ sM];refine J4 ar S.symm hg r4 ?_;refine l9 (F:=fun z=>Ret (u5 _ _ _ (u7 (inBlock 0 z) _)) _ _) (Ng k a6 O lo pm K oM J w u va ca q.a (h1.mono hm lR) h3 a2 (pT H.next) ((inL true q.a).foldl aF u) q.a.length _ _ ⟨0,u,rfl,oM,rfl,rfl,rfl,rfl,rfl,a9,by rw[List.drop_zero];omega,rfl⟩) ?_;rintro o e' H2 ⟨ho,g0,g3,hM⟩;have a4:=hM.stay;have b3:=a4.next;have a5:H2.get H.next=cE D 1:=by
  obtain⟨w',_,_,_,hb,_⟩:=hM.ex;exact(hb H.next oM oM (fun q=>by have:=hO.lt q;omega)).trans hg
 have b2:=bw (inL true q.a) u;have b1:(inL true q.a).length<=nL q.a:=by
  have:=gM q.a (inQ true) fun x hx=>(bH _ true x lR (a2 x hx)).1;rw[al1];omega
 refine J4 ho g3 a5 r5 ?_;refine l9 (F:=fun z=>Ret (u5 _ _ _ (inBlock 2 z)) _ _) (Nh k a7 O lo pm K oM J w u wa E q.b (h2.mono hm lR) h4 a8 ((inL true q.a++inB q.b).foldl aF u) q.b.length _ _ ⟨0,_,rfl,oM,g0,rfl,rfl,rfl,hM,by rw[List.drop_zero];omega,by rw[List.drop_zero,List.foldl_append]⟩) ?_;rintro o e' H3 ⟨ho,a3⟩;refine J1 ho ?_;exact vG U W J a1 I hO a3
theorem Et:∀k,al2 58 false k/\al2 82 true k:=by
 intro k;induction k with
 |zero=>exact⟨fun H lo z K w u cs q _ _ _ _ y=>y.elim,fun H lo z K w u cs q _ _ _ _ y=>y.elim⟩
 |succ k h=>exact⟨XA k h.1 h.2,XB k h.2 h.1⟩
theorem DP(v:Value)(H H':d9)(h:H'.low<H.next):D4 v H H'=(v,some ⟨H'.bs,min H.low H'.low⟩):=by
 unfold D4;rw[if_neg];have:¬H.bs.length<=H'.low:=by have:H.next=H.bs.length:=rfl;omega
 simp [this]
theorem ND(H:d9)(pm:Nat)(st:Int)(r:LV)(E:H.get pm=cE (.int .i64 st::r) 1)(O:r.length=4)(W:0<=st)(X:st<=10000000):
  CL prog O8 110 [pT pm] H=some (.int .i64 st,some (H.put pm (.cells (.int .i64 (st+1)::r) true 1))):=by
 have D:=u6 E;have z:(⟨H.bs,H.next⟩:d9).get pm=cE (.int .i64 st::r) 1:=E;obtain⟨u,h⟩:=eY (d9.put ⟨H.bs,H.next⟩ pm (.cells (.int .i64 (st+1)::r) true 1));have J:u.get pm=some (.cells (.int .i64 (st+1)::r) true 1):=by rw[h];exact i8 D
 have S:u.low=pm:=by rw[h,A4];show min H.next pm=pm;omega
 have U:u.low<H.next:=oM;have y:(⟨u.bs,min H.low u.low⟩:d9)=H.put pm (.cells (.int .i64 (st+1)::r) true 1):=by rw[S,h];rfl
 have I:st+1-1=st:=oM;rw[j8 WA rfl _ sM];exact J8 z O @wrap_small h.symm J I @DP y trivial
structure PgS(Rt:LV->Q->Prop)(pm:Nat)(H0:d9)(we0 wt0:Value)(H:d9)(p:PrD):Prop where
 ex:∃we wt,H.get pm=cE [iV p.st,iV p.sa,iV p.en,we,wt] 1/\t7 H (pm+1) 4 (R1 edE) we p.ed/\t7 H (pm+1) 6 Rt wt p.ts/\(∀b,j9 we b->¬j9 wt b)/\
  (∀j,j<H0.next->j≠pm->¬j9 we0 j->¬j9 wt0 j->H.get j=H0.get j)/\(∀b,j9 we b->j9 we0 b\/H0.next<=b)/\(∀b,j9 wt b->j9 wt0 b\/H0.next<=b)
 stay:i4 pm H0 H
section
variable{Rt:List Value->Q->Prop}{pm:Nat}{H0 H H':d9}{we0 wt0 we wt:Value}{p:PrD}
theorem PgS.lt(h:PgS Rt pm H0 we0 wt0 H p):pm<H.next:=by obtain⟨⟨_,_,u,_⟩,_⟩:=h;exact u6 u
theorem PgS.work(h:PgS Rt pm H0 we0 wt0 H p)(u:i4 H.next H H'):PgS Rt pm H0 we0 wt0 H' p:=by
 have U:=h.lt;obtain⟨⟨we,wt,y,z,D,E,I,J,O⟩,hs⟩:=h;have hn:=hs.next;exact⟨⟨we,wt,(u.get pm U).trans y,z.keep u,D.keep u,E,fun j S W X q3=>by rw[u.get j oM,I j S W X q3],J,O⟩,hs.trans (u.weaken oM)⟩
theorem PgS.start(D:H.get pm=cE [iV p.st,iV p.sa,iV p.en,we,wt] 1)(u:t7 H (pm+1) 4 (R1 edE) we p.ed)(y:t7 H (pm+1) 6 Rt wt p.ts)(z:∀b,j9 we b->¬j9 wt b):PgS Rt pm H we wt H p:=
 ⟨⟨we,wt,D,u,y,z,fun _ _ _ _ _=>rfl,fun _ h=> .inl h,fun _ h=> .inl h⟩,i4.refl _ _⟩
theorem PgS.trans{D:d9}{p1:PrD}(h:PgS Rt pm H0 we0 wt0 H p)(k:∀we wt,(H.get pm=cE [iV p.st,iV p.sa,iV p.en,we,wt] 1)->PgS Rt pm H we wt D p1):PgS Rt pm H0 we0 wt0 D p1:=by
 obtain⟨⟨we,wt,U,h2,h3,h4,W,E,I⟩,hs⟩:=h;obtain⟨⟨y,z,k1,k2,k3,k4,k5,k6,k7⟩,ks⟩:=k we wt U;have hn:=hs.next;refine⟨⟨y,z,k1,k2,k3,k4,fun j X J O S=>?_,fun b u=>?_,fun b u=>?_⟩,hs.trans ks⟩
 .rw[k5 j oM J (fun q=>?_) (fun q=>?_),W j X J O S]
  .rcases E j q with r|r
   .exact O r
   .omega
  .rcases I j q with r|r
   .exact S r
   .omega
 .rcases k6 b u with r|r
  .exact E b r
  .exact .inr oM
 .rcases k7 b u with r|r
  .exact I b r
  .exact .inr oM
end
theorem cJ{Rt:LV->Q->Prop}{pm:Nat}{H0 H:d9}{we0 wt0:Value}{p:PrD}(h:PgS Rt pm H0 we0 wt0 H p)(U:0<=p.st)(W:p.st<=10000000):
  ∃H',CL prog O8 110 [pT pm] H=some (.int .i64 p.st,some H')/\PgS Rt pm H0 we0 wt0 H' {p with st:=p.st+1}/\H'.low<=pm/\H'.low<=H.low/\H'.next=H.next:=by
 have hp:=h.lt;obtain⟨⟨we,wt,E,y,z,I,J,O,S⟩,hs⟩:=h;refine⟨_,ND H pm p.st _ E rfl U W,⟨⟨we,wt,i8 hp,y.same fun b u=>i9 (oN (y.lt u)),z.same fun b u=>i9 (oN (z.lt u)),I,fun j X D q2 q3=>?_,O,S⟩,hs.trans (i4.put lR)⟩,?_,?_,?_⟩
 .rw[i9 (fun q=>D q.symm),J j X D q2 q3]
 .rw[A4];omega
 .rw[A4];omega
 .rw[j5]
theorem BL{Rt:LV->Q->Prop}{pm:Nat}{H0 H:d9}{we0 wt0:Value}{p:PrD}(h:PgS Rt pm H0 we0 wt0 H p)(lv:Value)(l:List (Int×Int×Int×Int))(hl:SlI H H.next 4 (R1 edE) lv l)(hn:p.ed.length+l.length<=1000000)(a4:l≠ []):
  Ret (CL prog O8 134 [pT pm,lv] H) H fun v H'=>v=undef/\PgS Rt pm H0 we0 wt0 H' {p with ed:=p.ed++l}/\H'.low<=pm/\H'.low<=H.low:=by
 have hp:=h.lt;obtain⟨⟨we,wt,g1,g2,S,g4,g5,g6,g7⟩,hs⟩:=h;have a5:=hs.next;obtain⟨I,z⟩:=eY (⟨H.bs,H.next⟩:d9);have sb:i4 H.next H I:=by rw[z];exact i4.start H
 have nb:I.next=H.next:=by rw[z];rfl
 have J:∀j,I.get j=H.get j:=fun j=>by rw[z];rfl
 obtain⟨y,h1,O,ha,a2,hO,D⟩:=(g2.keep sb).appendF (P:=prog) (t:=30) (n:=H.next) (l2:=l) (x:=lv) (by exact Fp.2.2.2.2.2.2) mL.1 mL.2.1 mL.2.2.1 oM oM (hl.mono (fun j _=>J j) lR iF) oM oM;have n1:=D.next;obtain⟨a7,a8,rfl⟩:=hl.slice;have a3:¬j9 we pm:=fun q=>oN (g2.lt q);have U:O.get pm=cE [iV p.st,iV p.sa,iV p.en,we,wt] 1:=by rw[D.but pm oM a3,J];exact g1
 obtain⟨a1,c1,e1⟩:=hO.slice;have cw:y.cells.toList=[y]:=by rw[e1];rfl
 have ow:Value.oneCell' y=true:=by rw[e1];rfl
 obtain⟨H2,u⟩:=eY (O.put pm (bC [iV p.st,iV p.sa,iV p.en,y,wt] 1));have l2:H2.low<=pm:=by rw[u,A4];omega
 have a6:H2.low<H.next:=oM;have W:I.get pm=cE [iV p.st,iV p.sa,iV p.en,we,wt] 1:=by rw[J];exact g1
 rw[j8 WW rfl _ sM];rw[show(⟨H.bs,H.next⟩:d9)=I from z.symm];refine J7 W ha a2 U cw ow u.symm ?_;refine D7 (fun _ hl=>oM) ⟨rfl,?_,?_,?_⟩
 rotate_left
 .show min H.low H2.low<=pm;omega
 .show min H.low H2.low<=H.low;omega
 have kp:∀j,j≠pm->H2.get j=O.get j:=fun j hj=>by rw[u,i9 (fun q=>hj q.symm)]
 have X:H2.get pm=cE [iV p.st,iV p.sa,iV p.en,y,wt] 1:=by rw[u];exact i8 oM
 have sg:i4 pm H H2:=by rw[u];exact((sb.weaken oM).trans (D.stay.weaken oM)).trans (i4.put lR)
 refine⟨⟨y,wt,X,(hO.same (H':=⟨H2.bs,min H.low H2.low⟩) fun b E=>?_),(S.same (H':=⟨H2.bs,min H.low H2.low⟩) fun b E=>?_),fun b E=>?_,fun j hj q1 q2 q3=>?_,fun b E=>?_,g7⟩,hs.trans ⟨sg.next,fun k hk q=>?_,sg.get⟩⟩
 .exact kp b (oN (hO.lt E))
 .have:=S.lt E;show H2.get b=_;rw[kp b oM,D.but b oM (fun q=>g4 b q E),J]
 .rcases D.new b E with r|r
  .exact g4 b r
  .exact fun q=>oN (S.lt q)
 .show H2.get j=_;rw[kp j q1,D.but j oM (fun q=>?_),J,g5 j hj q1 q2 q3];rcases g6 j q with r|r
  .exact q2 r
  .omega
 .rcases D.new b E with r|r
  .exact g6 b r
  .exact .inr oM
 .have:k<=H2.low:=by
   rw[u,A4];have:=D.stay.lowAll k oM (by rw[z];show k<=H.next;omega);omega
  show k<=min H.low H2.low;omega
def PgC(Rt:LV->Q->Prop)(pm:Nat)(x:Option (Value×Option d9))(H:d9)(p p':PrD)(v:Value):Prop:=∀(H0:d9)(we0 wt0:Value),PgS Rt pm H0 we0 wt0 H p->Ret x H fun w H'=>w=v/\PgS Rt pm H0 we0 wt0 H' p'/\H'.low<=pm/\H'.low<=H.low
theorem gT{Rt:LV->Q->Prop}{pm:Nat}{x:Option (Value×Option d9)}{H:d9}{p E:PrD}{v:Value}(h:∀we wt,pm<H.next->PgS Rt pm ⟨H.bs,H.next⟩ we wt ⟨H.bs,H.next⟩ p->∃H',x=some (D4 v H H')/\PgS Rt pm ⟨H.bs,H.next⟩ we wt H' E/\H'.low<=pm):PgC Rt pm x H p E v:=by
 intro H0 we0 wt0 z;have X:=z.lt;obtain⟨⟨we,wt,O,S,U,W,g5,g6,g7⟩,hs⟩:=id z;obtain⟨H',hx,⟨⟨I,J,k1,k2,k3,k4,k5,k6,k7⟩,u⟩,hl⟩:=h we wt X ⟨⟨we,wt,O,S.low _,U.low _,W,fun _ _ _ _ _=>rfl,fun _ h=> .inl h,fun _ h=> .inl h⟩,i4.refl _ _⟩;have nb:(⟨H.bs,H.next⟩:d9).next=H.next:=rfl;have lb:(⟨H.bs,H.next⟩:d9).low=H.next:=rfl;have hn:=u.next;have y:PgS Rt pm H we wt ⟨H'.bs,min H.low H'.low⟩ E:=⟨⟨I,J,k1,k2.low _,k3.low _,k4,k5,k6,k7⟩,u.next,fun k q1 q2=>(by have:=u.lowAll k q1 oM;show k<=min H.low H'.low;omega),u.get⟩
 rw[hx];refine D7 (fun _ q=>oM) ⟨rfl,z.trans fun a1 a2 D=>?_,?_,?_⟩
 .have:=O.symm.trans D;simp only[Option.some.injEq,Blk.cells.injEq,List.cons.injEq,and_true,true_and]at this;obtain⟨rfl,rfl⟩:=this;exact y
 .show min H.low H'.low<=pm;omega
 .show min H.low H'.low<=H.low;omega
theorem gU(Rt:LV->Q->Prop)(pm:Nat)(H:d9)(p:PrD)(f t:Int)(U:p.ed.length+1<=1000000):
  PgC Rt pm (CL prog O8 111 [pT pm,iV f,iV t] H) H p (p.edge f t 0 0) undef:=by
 refine gT fun we wt X h=>?_;obtain⟨D,u,n1,-⟩:=pushF H (.cells (edE (f,t,0,0)) true 4);have J:i4 H.next ⟨H.bs,H.next⟩ D:=by rw[u];exact i4.push lR
 have E:t7 D H.next 4 (R1 edE) (sL H.next 1 1) [(f,t,0,0)]:=by rw[u];exact t7.fresh rfl lR (D2.one rfl rfl)
 obtain⟨v,W,H2,O,y,rfl,I,z,S⟩:=BL (h.work J) _ [(f,t,0,0)] E.sl (by simpa using U) sM;rw[j8 WB rfl _ sM];refine J3 u.symm O y ?_;exact⟨H2,rfl,I,z⟩
theorem jT(Rt:LV->Q->Prop)(pm:Nat)(H:d9)(p:PrD)(k x:Int)(hn:p.ed.length+1<=1000000)(U:0<=p.st)(h1:p.st<=1000000):
  PgC Rt pm (CL prog O8 107 [pT pm,iV k,iV x] H) H p (({p with st:=p.st+2}:PrD).edge p.st (p.st+1) k x) (.tuple #[iV p.st,iV (p.st+1)]):=by
 refine gT fun we wt hp h=>?_;obtain⟨Ha,D,pa,a2,a3,na⟩:=cJ h U oM;obtain⟨y,z,pb,a4,a5,nb⟩:=cJ pa (by show 0<=p.st+1;omega) (by show p.st+1<=_;omega);have n0:(⟨H.bs,H.next⟩:d9).next=H.next:=rfl;obtain⟨J,u⟩:=eY (d9.push y (.cells (edE (p.st,p.st+1,k,x)) true 4));have X:i4 y.next y J:=by rw[u];exact i4.push lR
 have W:t7 J y.next 4 (R1 edE) (sL y.next 1 1) [(p.st,p.st+1,k,x)]:=by rw[u];exact t7.fresh rfl lR (D2.one rfl rfl)
 obtain⟨v,h2,H2,hc,E,rfl,O,I,a1⟩:=BL (pb.work X) _ [(p.st,p.st+1,k,x)] W.sl (by simpa using hn) sM;have S:p.st+1+1=p.st+2:=oM;simp only[S]at O z;have ll:H2.low<H.next:=oM;rw[j8 Wx rfl _ sM];refine J5 D z u.symm hc E ?_;exact⟨H2,rfl,O,I⟩
theorem PgS.trans'{D:LV->Q->Prop}{z:Nat}{H0 H I:d9}{u y J O:Value}{p p1:PrD}(h:PgS D z H0 u y H p)(k:PgS D z H J O I p1)(S:H.get z=cE [iV p.st,iV p.sa,iV p.en,J,O] 1):PgS D z H0 u y I p1:=
 h.trans fun U W E=>by
  have:=S.symm.trans E;simp only[Option.some.injEq,Blk.cells.injEq,List.cons.injEq,and_true,true_and]at this;obtain⟨rfl,rfl⟩:=this;exact k
theorem SlI.tail{P:Program}{H:d9}{lo sz:Nat}{α:Type}{R:LV->α->Prop}{O:Option Addr}{u:Nat}{l:List α}{t e:TypeId}(h:SlI H lo sz R (.slice O l.length u) l)(D:0<l.length)(ht:P.underlying t=some (.slice e))(hs:z9 P e=some sz)(h0:0<sz):
  ∃E y,(∀H',(∀j,j<lo->H'.get j=H.get j)->Y7 P H' t (.slice O l.length u) (some (.int .i64 1)) none none=some (.slice E (l.drop 1).length y))/\SlI H lo sz R (.slice E (l.drop 1).length y) (l.drop 1):=by
 rcases h with⟨_,h⟩|⟨b,o,c,hv,h⟩
 .rw[h]at D;simp at D
 .rcases h with h|⟨cs,own,U,W,h3,h4⟩
  .rw[h]at D;simp at D
  .obtain⟨rfl,rfl⟩:O=some ⟨b,o,none⟩/\u=c:=by simpa using hv
   have z:(l.drop 1).length=l.length-1:=sM;have a1:(l.length-1)*sz+sz=l.length*sz:=by
    rw[<-Nat.succ_mul];congr 1;omega
   refine⟨some ⟨b,o+sz,none⟩,if u=l.length then l.length-1 else l.length-1+1,fun H' I=>?_,.inr ⟨b,o+sz,_,rfl,.inr ⟨cs,own,U,W,by rw[z];omega,fun i a hi=>?_⟩⟩⟩
   .have hg:H'.get b=some (.cells cs own sz):=by rw[I b U];exact W
    have J:yH H' b=some sz:=by simp only[yH,hg]
    simp only[Y7,ht,hs,bnd,J,z];have S:(if(0:Int)<=1 then some (1:Int).toNat else none)=some 1:=rfl;have p1:¬sz=0:=oM;have p2:1<=l.length/\l.length<=l.length:=⟨D,lR⟩
    have p3:¬l.length=0:=oM;by_cases X:u=l.length
    .simp only[S,if_neg p1,if_pos p2,if_neg p3,ne_eq,not_true_eq_false,if_false,if_pos X,if_true,Nat.one_mul]
    .simp only[S,if_neg p1,if_pos p2,if_neg p3,ne_eq,not_true_eq_false,if_false,if_neg X,if_true,Nat.one_mul]
   .rw[List.getElem?_drop]at hi;have:=h4 (1+i) a hi;rw[show o+sz+i*sz=o+(1+i)*sz by rw[Nat.add_mul];omega];exact this
def sv(Hs:d9)(lo K k:Nat):Prop:=∀(H:d9)(pm:Nat)(cs:LV)(q:Q)(p:PrD),lo<=pm->(∀j,j<lo->H.get j=Hs.get j)->QR Hs lo k false cs q->OkD false q->iq (nQ q) p->
 PgC (QR Hs lo K true) pm (CL prog O8 83 [pT pm,.agg cs.toArray] H) H p (C5 q p).1 (.tuple #[iV (C5 q p).2.1,iV (C5 q p).2.2])
theorem aB7(D:d9)(lo K k:Nat)(ih:sv D lo K k)(I:d9)(u:Nat)(b1:lo<=u)(a6:∀j,j<lo->I.get j=D.get j) (we wt:Value) (va:Option Addr) (ca:Nat) (l:List Q) (hv:QsR D lo k false (.slice va l.length ca) l) (hn:l.length<=1048576) (hw:∀x∈l,OkD false x) (s:Int) (r:PrD×Int×Int):
  ∀kk e H2,(∃(i:Nat)(y:PrD×Int×Int),kk=l.length-i/\i<=l.length/\e.get 0=pT u/\e.get 6=iV s/\e.get 7=iV y.2.2/\e.get 21= .slice va l.length ca/\e.get 22=iV l.length/\e.get 23=iV i/\PgS (QR D lo K true) u I we wt H2 y.1/\H2.low<=u/\iq (nL (l.drop i)) y.1/\y.2.1=s/\cP (l.drop i) y=r)->
  u9 (LE prog O8 (.loop Ag) e H2) (fun o e H2=>o= .exit 0/\e.get 6=iV r.2.1/\e.get 7=iV r.2.2/\PgS (QR D lo K true) u I we wt H2 r.1/\H2.low<=u):=by
 refine j7 _ _ ?_;rintro kk e H2 ⟨i,y,b6,hi,f0,f6,f7,f21,f22,f23,hP,hl,U,hs,E⟩;rcases b:decide ((i:Int)<l.length)with _|_
 .have a4:=dF b;have:l.drop i=[]:=dN oM;rw[this,cP]at E;refine J3 f22 f23 b ?_;exact l7 ⟨rfl,by rw[<-E,hs];exact f6,by rw[<-E];exact f7,by rw[<-E];exact hP,hl⟩
 have a4:=dT b;have hS:=hP.stay;have b8:=hS.next;have b9:=hP.lt;obtain⟨x,nb,o,cs,own,el,hx,hd,rfl,b2,hg,b0,h,hr⟩:=hv.row (i:=i) oM;have b4:=mG hx;have nt:(i:Int).toNat=i:=tN i;simp only[qSz,bF]at h hg b0;have J:∀j,j<lo->H2.get j=D.get j:=fun j hj=>by rw[hS.get j oM,a6 j hj]
 have a1:el.all oC=true:=F0 hr;have e1:=hr.len;simp only[qSz,bF]at e1;have X:=M8 hr;rw[e1]at X;have gx:=(J nb b2).trans hg;obtain⟨H3,a2,n3,g3,s3⟩:=pushP H2 (bC [iV 0,nS,nS] 1) (bC el 1);have b5:splice [iV 0,nS,nS] 0 el=el:=w7 _ _ (by rw[e1];rfl);have b3:nL (l.drop i)=nQ x+nL (l.drop (i+1)):=by rw[hd,nL]
 obtain⟨t0,t1,t2,t3⟩:=U;rw[b3]at t1 t2 t3;have W:=E8 x y.1;obtain⟨v4,h4,H4,S,a8,rfl,O,b7,_⟩:=ih H3 u el x y.1 b1 (fun j hj=>by rw[s3.get j oM,J j hj]) hr (hw x b4) ⟨t0,oM,oM,oM⟩ I we wt (hP.work s3);rw[hd,cP]at E;obtain⟨z,hz⟩:=eY (C5 x y.1);rw[<-hz]at S O E W;obtain⟨u0,u1,u2,u3⟩:=W;obtain⟨v5,h5,H5,a5,a7,rfl,a3,a9,_⟩:=gU (QR D lo K true) u H4 z.1 y.2.2 z.2.1 oM I we wt O;refine J20 f0 f7 f21 f22 f23 b gx nt h a1 e1 b5 a2.symm g3 X S a8 a5 a7 @wrap_small ?_;exact i6 (kk-1) oM ⟨i+1,(z.1.edge y.2.2 z.2.1 0 0,y.2.1,z.2.2),oM,oM,f0,f6,rfl,f21,f22,rfl,a3,a9,⟨by simp only[U4];omega,by simp only[U4];omega,by rw[N8];omega,by simp only[bS];omega⟩,hs,E⟩
theorem XF(D:d9)(lo K k:Nat)(ih:sv D lo K k)(H:d9)(O:Nat)(X:lo<=O)(a7:∀j,j<lo->H.get j=D.get j) (v:Value) (l:List Q) (hv:QsR D lo k false v l) (hn:l.length<=1048576) (a2:0<l.length) (hw:∀x∈l,OkD false x) (p:PrD) (U:iq (nL l) p):
  PgC (QR D lo K true) O (CL prog O8 108 [pT O,v] H) H p (hU l p).1 (.tuple #[iV (hU l p).2.1,iV (hU l p).2.2]):=by
 refine gT fun we wt hp h=>?_;obtain⟨va,ca,rfl⟩:=hv.slice;obtain⟨b6,a3,b4,b5⟩:=SlI.tail (P:=prog) (t:=22) (e:=25) hv a2 (by exact jL.2.2.2.2.2.2) X8.1 (by decide);obtain⟨x,nb,o,cs,own,el,hx,hd,rfl,b2,hg,b1,E,hr⟩:=hv.row (i:=0) a2;simp only[qSz,bF,Nat.zero_mul,Nat.add_zero]at E hg b1;have a1:l=x::l.drop 1:=by simpa using hd
 have b8:nL l=nQ x+nL (l.drop 1):=by conv=>lhs;rw[a1,nL]
 have I:hU l p=cP (l.drop 1) (C5 x p):=by conv=>lhs;rw[a1,hU]
 obtain⟨t0,t1,t2,t3⟩:=U;have W:=E8 x p;have u:∀j,j<lo->(⟨H.bs,H.next⟩:d9).get j=D.get j:=a7;have gx:(⟨H.bs,H.next⟩:d9).get nb=_:=(u nb b2).trans hg;obtain⟨v4,h4,H4,S,a8,rfl,J,a9,_⟩:=ih ⟨H.bs,H.next⟩ O el x p X u hr (hw x (mG hx)) ⟨t0,oM,oM,oM⟩ _ we wt h;have a6:=J.stay;have a4:∀j,j<lo->H4.get j=D.get j:=fun j hj=>by rw[a6.get j oM,u j hj]
 have b3:=b4 H4 a4;have b7:(0:Int)<l.length:=oM;obtain⟨y,hy⟩:=eY (C5 x p);rw[<-hy]at S J W I;obtain⟨u0,u1,u2,u3⟩:=W;rw[j8 Wy rfl _ sM];refine J5 gx E S a8 b3 ?_;refine l9 (F:=fun z=>∃H',u5 _ _ _ (u7 (inBlock 0 z) _)=some (D4 _ H H')/\PgS (QR D lo K true) O _ we wt H' (hU l p).1/\H'.low<=O) (aB7 D lo K k ih ⟨H.bs,H.next⟩ O X u we wt b6 a3 (l.drop 1) b5 (by simp;omega) (fun z hz=>hw z (List.mem_of_mem_drop hz)) y.2.1 (cP (l.drop 1) y) (l.drop 1).length _ _ ⟨0,y,rfl,oM,rfl,rfl,rfl,rfl,rfl,rfl,J,a9,⟨oM,by rw[List.drop_zero];omega,by rw[List.drop_zero];omega,by rw[List.drop_zero];omega⟩,rfl,rfl⟩) ?_;rintro o' e' H5 ⟨ho,g6,g7,a5,b0⟩;rw[I];have ll:H5.low<H.next:=oM;refine J3 ho g6 g7 ?_;exact⟨H5,rfl,a5,b0⟩
structure PgW(Rt:LV->Q->Prop)(pm:Nat)(H:d9)(we wt:Value)(p:PrD):Prop where
 row:H.get pm=cE [iV p.st,iV p.sa,iV p.en,we,wt] 1
 e:t7 H (pm+1) 4 (R1 edE) we p.ed
 t:t7 H (pm+1) 6 Rt wt p.ts
 d:∀b,j9 we b->¬j9 wt b
theorem PgW.start{u:LV->Q->Prop}{y:Nat}{H:d9}{z D:Value}{p:PrD}(h:PgW u y H z D p):PgS u y H z D H p:=PgS.start h.row h.e h.t h.d
theorem PgS.w{I:LV->Q->Prop}{E:Nat}{H0 H:d9}{u y:Value}{p:PrD}(h:PgS I E H0 u y H p):∃z D,PgW I E H z D p/\(∀j,j<H0.next->j≠E->¬j9 u j->¬j9 y j->H.get j=H0.get j)/\(∀b,j9 z b->j9 u b\/H0.next<=b)/\(∀b,j9 D b->j9 y b\/H0.next<=b):=by
 obtain⟨⟨z,D,J,O,S,U,W,X,h7⟩,_⟩:=h;exact⟨z,D,⟨J,O,S,U⟩,W,X,h7⟩
theorem tW(E:d9)(lo K k:Nat)(ih:sv E lo K k)(J:d9)(D:Nat)(d3:lo<=D)(b6:D<J.next)(c9:∀j,j<lo->J.get j=E.get j) (we wt:Value) (va:Option Addr) (ca:Nat) (l:List Q) (hv:QsR E lo k false (.slice va l.length ca) l) (hn:l.length<=1048576) (hw:∀x∈l,OkD false x) (s:Int) (r:PrD×List Int) (g2:r.2.length<=1000000):
  ∀kk e H2,(∃(i:Nat)(p:PrD)(es:List Int)(w u y:Value),kk=l.length-i/\i<=l.length/\e.get 0=pT D/\e.get 6=iV s/\e.get 7=w/\e.get 17= .slice va l.length ca/\e.get 18=iV l.length/\e.get 19=iV i/\PgS (QR E lo K true) D J we wt H2 p/\PgW (QR E lo K true) D H2 u y p/\t7 H2 J.next 1 (R1 inE) w es/\(∀b,j9 w b->¬j9 u b/\¬j9 y b)/\iq (nL (l.drop i)) p/\L5 (l.drop i) s p es=r)->
  u9 (LE prog O8 (.loop Ah) e H2) (fun o e H2=>o= .exit 0/\e.get 0=pT D/\e.get 6=iV s/\∃(w u y:Value),e.get 7=w/\PgS (QR E lo K true) D J we wt H2 r.1/\PgW (QR E lo K true) D H2 u y r.1/\t7 H2 J.next 1 (R1 inE) w r.2/\(∀b,j9 w b->¬j9 u b/\¬j9 y b)):=by
 refine j7 _ _ ?_;rintro kk e H2 ⟨i,p,es,w,u,y,e8,hi,f0,f6,f7,f17,f18,f19,hP,hW,U,I,b3,fu⟩;rcases b:decide ((i:Int)<l.length)with _|_
 .have c7:=dF b;have:l.drop i=[]:=dN oM;rw[this,L5]at fu;subst fu;refine J3 f18 f19 b ?_;exact l7 ⟨rfl,f0,f6,w,u,y,f7,hP,hW,U,I⟩
 have c7:=dT b;have hS:=hP.stay;have f2:=hS.next;have g1:=hP.lt;have g0:D<J.next:=b6;obtain⟨x,nb,o,cs,own,el,hx,hd,rfl,d6,hg,d2,a6,hr⟩:=hv.row (i:=i) oM;have e2:=mG hx;have nt:(i:Int).toNat=i:=tN i;simp only[qSz,bF]at a6 hg d2;have a9:∀j,j<lo->H2.get j=E.get j:=fun j hj=>by rw[hS.get j oM,c9 j hj]
 have a1:el.all oC=true:=F0 hr;have e1:=hr.len;simp only[qSz,bF]at e1;have b8:=M8 hr;rw[e1]at b8;have gx:=(a9 nb d6).trans hg;obtain⟨H3,c3,n3,g3,s3⟩:=pushP H2 (bC [iV 0,nS,nS] 1) (bC el 1);have e7:splice [iV 0,nS,nS] 0 el=el:=w7 _ _ (by rw[e1];rfl);have d8:nL (l.drop i)=nQ x+nL (l.drop (i+1)):=by rw[hd,nL]
 obtain⟨t0,t1,t2,t3⟩:=b3;rw[d8]at t1 t2 t3;have b5:=E8 x p;have W3:PgW (QR E lo K true) D H3 u y p:=⟨(s3.get D oM).trans hW.row,hW.e.keep s3,hW.t.keep s3,hW.d⟩
 obtain⟨v4,h4,H4,b2,d1,rfl,W,e9,_⟩:=ih H3 D el x p d3 (fun j hj=>by rw[s3.get j oM,a9 j hj]) hr (hw x e2) ⟨t0,oM,oM,oM⟩ H3 u y W3.start;have a5:=(hP.work s3).trans' W W3.row;rw[hd,L5]at fu;obtain⟨z,hz⟩:=eY (C5 x p);rw[<-hz]at b2 W a5 fu b5;obtain⟨u0,u1,u2,u3⟩:=b5;obtain⟨b9,c0,W4,a7,e3,e5⟩:=W.w;have n4:=W.stay.next;obtain⟨v5,h5,H5,c8,d0,rfl,X,f1,_⟩:=gU (QR E lo K true) D H4 z.1 s z.2.1 oM H4 b9 c0 W4.start;have b0:=a5.trans' X W4.row;obtain⟨a3,a4,O,a8,e4,e6⟩:=X.w;have n5:=X.stay.next;have d4:∀b,j9 w b->¬j9 b9 b/\¬j9 c0 b:=fun b h=>⟨fun q=>by rcases e3 b q with r|r;exact(I b h).1 r;have:=U.lt h;omega,fun q=>by rcases e5 b q with r|r;exact(I b h).2 r;have:=U.lt h;omega⟩
 have d5:∀b,j9 w b->¬j9 a3 b/\¬j9 a4 b:=fun b h=>⟨fun q=>by rcases e4 b q with r|r;exact(d4 b h).1 r;have:=U.lt h;omega,fun q=>by rcases e6 b q with r|r;exact(d4 b h).2 r;have:=U.lt h;omega⟩
 have c4:t7 H5 J.next 1 (R1 inE) w es:=U.same fun b h=>by
  have h1:=U.lt h;rw[a8 b oM oM (d4 b h).1 (d4 b h).2,a7 b oM oM (I b h).1 (I b h).2,s3.get b oM]
 obtain⟨w6,h6,H6,c6,b4,c5,S⟩:=c4.push1F (P:=prog) (t:=29) (cs:=inE z.2.2) (a:=z.2.2) (by exact yL.2.2.2.2.2.2) ty3.1 ty3.2.1 ty3.2.2.1 oM oM rfl rfl (by have h2:=(bA (l.drop (i+1)) s (z.1.edge s z.2.1 0 0) (es++[z.2.2])).2;rw[fu]at h2;simp at h2;omega) oM;have n6:=S.next;have b7:=X.lt;have a2:∀{b:Nat},b<H5.next->¬j9 w b->H6.get b=H5.get b:=fun h hw=>S.but _ h hw;have W6:PgW (QR E lo K true) D H6 a3 a4 (z.1.edge s z.2.1 0 0):=⟨(a2 b7 (fun q=>by have:=U.lt q;omega)).trans O.row,O.e.same fun b h=>a2 (O.e.lt h).2 (fun q=>(d5 b q).1 h),O.t.same fun b h=>a2 (O.t.lt h).2 (fun q=>(d5 b q).2 h),O.d⟩
 have b1:PgS (QR E lo K true) D J we wt H6 (z.1.edge s z.2.1 0 0):=by
  obtain⟨⟨g4,g5,k1,k2,k3,k4,k5,k6,k7⟩,ks⟩:=b0;have:=O.row.symm.trans k1;simp only[Option.some.injEq,Blk.cells.injEq,List.cons.injEq,and_true,true_and]at this;obtain⟨rfl,rfl⟩:=this;exact⟨⟨a3,a4,W6.row,W6.e,W6.t,W6.d,fun j hj q1 q2 q3=>by rw[a2 oM (fun q=>by have:=U.lt q;omega)];exact k5 j hj q1 q2 q3,k6,k7⟩,ks.trans (S.stay.weaken oM)⟩
 refine J23 f0 f6 f7 f17 f18 f19 b gx nt a6 a1 e1 e7 c3.symm g3 b8 b2 d1 c8 d0 c6 b4 @wrap_small ?_;refine i6 (kk-1) oM ⟨i+1,z.1.edge s z.2.1 0 0,es++[z.2.2],w6,a3,a4,oM,oM,f0,f6,rfl,f17,f18,rfl,b1,W6,c5,fun b h=>?_,⟨by simp only[U4];omega,by simp only[U4];omega,by rw[N8];omega,by simp only[bS];omega⟩,fu⟩;rcases S.new b h with r|r
 .exact d5 b r
 .exact⟨fun q=>by have:=O.e.lt q;omega,fun q=>by have:=O.t.lt q;omega⟩
theorem tV(Rt:LV->Q->Prop)(I:d9)(E:Nat)(b6:E<I.next)(we wt:Value)(wa:Option Addr)(W:Nat)(h:List Int)(hn:h.length<=1000000)(s t:Int)(r:PrD):
  ∀kk e H2,(∃(i:Nat)(p:PrD)(y z:Value),kk=h.length-i/\i<=h.length/\e.get 0=pT E/\e.get 6=iV s/\e.get 12=iV t/\e.get 40= .slice wa h.length W/\e.get 41=iV h.length/\e.get 42=iV i/\PgS Rt E I we wt H2 p/\PgW Rt E H2 y z p/\t7 H2 I.next 1 (R1 inE) (.slice wa h.length W) h/\(∀b,j9 (.slice wa h.length W) b->¬j9 y b/\¬j9 z b)/\H2.low<=E/\p.ed.length+(h.length-i)<=1000000/\(h.drop i).foldl (fun m x=>m.edge x t 0 0) p=r)->
  u9 (LE prog O8 (.loop Ai) e H2) (fun o e H2=>o= .exit 2/\e.get 6=iV s/\e.get 12=iV t/\PgS Rt E I we wt H2 r/\H2.low<=E):=by
 refine j7 _ _ ?_;rintro kk e H2 ⟨i,p,y,z,b3,hi,f0,f6,f12,f40,f41,f42,hP,hW,O,u,hl,b1,fu⟩;rcases b:decide ((i:Int)<h.length)with _|_
 .have a3:=dF b;have:h.drop i=[]:=dN oM;rw[this,List.foldl_nil]at fu;refine J3 f41 f42 b ?_;exact l7 ⟨rfl,f6,f12,by rw[<-fu];exact hP,hl⟩
 have a3:=dT b;obtain⟨x,nb,o,cs,own,el,hx,hd,a8,b5,hg,b4,b2,hc,hR⟩:=O.sl.row (i:=i) oM;subst a8;have nt:(i:Int).toNat=i:=tN i;have a5:el=inE x:=hR;subst a5;have c0:=hc 0 oM;rw[Nat.add_zero]at c0;rw[hd,List.foldl_cons]at fu;obtain⟨v5,h5,H5,a4,a6,rfl,S,a7,_⟩:=gU Rt E H2 p x t oM H2 y z hW.start;have U:=hP.trans' S hW.row;obtain⟨X,a1,W5,J,a9,b0⟩:=S.w;have d5:∀b,j9 (.slice (some ⟨nb,o,none⟩) h.length W) b->¬j9 X b/\¬j9 a1 b:=fun b D=>⟨fun q=>by rcases a9 b q with r|r;exact(u b D).1 r;have:=O.lt D;omega,fun q=>by rcases b0 b q with r|r;exact(u b D).2 r;have:=O.lt D;omega⟩
 have a2:t7 H5 I.next 1 (R1 inE) (.slice (some ⟨nb,o,none⟩) h.length W) h:=O.same fun b D=>by
  have h1:=O.lt D;rw[J b oM oM (u b D).1 (u b D).2]
 refine J12 f0 f12 f40 f41 f42 b hg nt c0 a4 a6 @wrap_small ?_;exact i6 (kk-1) oM ⟨i+1,p.edge x t 0 0,X,a1,oM,oM,f0,f6,f12,f40,f41,rfl,U,W5,a2,d5,a7,by rw[N8];omega,fu⟩
theorem XG(y:d9)(lo K k:Nat)(ih:sv y lo K k)(H:d9)(I:Nat)(b1:lo<=I)(a8:∀j,j<lo->H.get j=y.get j) (v:Value) (l:List Q) (hv:QsR y lo k false v l) (hn:l.length<=1048576) (hw:∀x∈l,OkD false x) (p:PrD) (X:iq (1+nL l) p) (r:PrD×List Int) (hr:r=L5 l p.st {p with st:=p.st+1} []):
  PgC (QR y lo K true) I (CL prog O8 109 [pT I,v] H) H p (r.2.foldl (fun m x=>m.edge x r.1.st 0 0) {r.1 with st:=r.1.st+1}) (.tuple #[iV p.st,iV r.1.st]):=by
 refine gT fun we wt hp h=>?_;obtain⟨va,ca,rfl⟩:=hv.slice;obtain⟨t0,t1,t2,t3⟩:=X;have c0:=pt l;obtain⟨⟨u0,u1,u2,u3⟩,u4⟩:=bA l p.st {p with st:=p.st+1} [];rw[<-hr]at u0 u1 u2 u3 u4;simp only[List.length_nil]at u0 u1 u2 u3 u4;have a3:∀j,j<lo->(⟨H.bs,H.next⟩:d9).get j=y.get j:=a8;obtain⟨H1,a6,S,b9,_,n1⟩:=cJ h t0 oM;obtain⟨b5,b6,W1,b7,c3,c4⟩:=S.w;rw[j8 Wz rfl _ sM];refine J1 a6 ?_;refine l9 (F:=fun z=>∃H',u5 _ _ _ (u7 (inBlock 0 z) _)=some (D4 _ H H')/\PgS (QR y lo K true) I _ we wt H' _/\H'.low<=I) (tW y lo K k ih ⟨H.bs,H.next⟩ I b1 hp a3 we wt va ca l hv hn hw p.st r oM l.length _ _ ⟨0,{p with st:=p.st+1},[],nS,b5,b6,rfl,oM,rfl,rfl,rfl,rfl,rfl,rfl,S,W1,t7.nil,fun b u=>(A9 b u).elim,⟨by show 0<=p.st+1;omega,by rw[List.drop_zero];show p.st+1+_<=_;omega,by rw[List.drop_zero];show p.ed.length+_<=_;omega,by rw[List.drop_zero];show p.ts.length+_<=_;omega⟩,by rw[List.drop_zero];exact hr.symm⟩) ?_;rintro o' e' H2 ⟨ho,g0,g6,w,c6,c7,g7,a4,W2,D,E⟩;obtain⟨H3,a7,U,a9,_,n3⟩:=cJ W2.start oM oM;have W:=a4.trans' U W2.row;obtain⟨a1,a2,W3,O,b3,b4⟩:=U.w;have d3:∀b,j9 w b->¬j9 a1 b/\¬j9 a2 b:=fun b u=>⟨fun q=>by rcases b3 b q with r|r;exact(E b u).1 r;have:=D.lt u;omega,fun q=>by rcases b4 b q with r|r;exact(E b u).2 r;have:=D.lt u;omega⟩
 have n0:(⟨H.bs,H.next⟩:d9).next=H.next:=rfl;have J:t7 H3 (d9.next ⟨H.bs,H.next⟩) 1 (R1 inE) w r.2:=D.same fun b u=>by
  have h1:=D.lt u;rw[O b oM oM (E b u).1 (E b u).2]
 obtain⟨wa,wc,ew⟩:=J.slice;rw[ew]at g7 J d3;refine J4 ho g0 g7 a7 ?_;refine l9 (F:=fun z=>∃H',u5 _ _ _ (u7 (inBlock 2 z) _)=some (D4 _ H H')/\PgS (QR y lo K true) I _ we wt H' _/\H'.low<=I) (tV (QR y lo K true) ⟨H.bs,H.next⟩ I hp we wt wa wc r.2 oM p.st r.1.st _ r.2.length _ _ ⟨0,{r.1 with st:=r.1.st+1},a1,a2,rfl,oM,g0,g6,rfl,rfl,rfl,rfl,W,W3,J,d3,a9,by show r.1.ed.length+_<=_;omega,rfl⟩) ?_;rintro c5 b8 H4 ⟨ho,k6,b2,a5,b0⟩;have ll:H4.low<H.next:=oM;refine J3 ho k6 b2 ?_;exact⟨H4,rfl,a5,b0⟩
theorem ah0(X:d9)(lo K k:Nat)(hk:k<=K)(ih:sv X lo K k):sv X lo K (k+1):=by
 intro H O cs q p c4 e9 hr i3 f0;refine gT fun we wt hp h=>?_;obtain⟨t0,t1,t2,t3⟩:=f0;have k8:=dE q;obtain⟨c6,_,o1,_,j2⟩:=i3.parts;obtain⟨l1,l2,o7,_⟩:=dk j2;simp only[bF]at o7;obtain⟨va,ca,wa,c9,a4,h1,h2,h3,k1⟩:=hr.path;have ac:cs.all oC=true:=by rw[a4];rfl
 have lc:cs.length=3:=by rw[a4];rfl
 have q0:cs[0]?=some (.int .i64 q.op):=by rw[a4];rfl
 have q1:cs[1]?=some (.slice va q.a.length ca):=by rw[a4];rfl
 have q2:cs[2]?=some (.slice wa q.b.length c9):=by rw[a4];rfl
 obtain⟨H1,U,n1,g1,-⟩:=pushF H (bC cs 1);have hS:i4 H.next ⟨H.bs,H.next⟩ H1:=by rw[U];exact i4.push lR
 have b0:∀j,j<lo->H1.get j=X.get j:=fun j hj=>by rw[hS.get j oM];exact e9 j hj
 have W:=h.work hS;have n0:(⟨H.bs,H.next⟩:d9).next=H.next:=rfl;obtain⟨a2,a8,W0,_⟩:=h.w;have W1:PgW (QR X lo K true) O H1 a2 a8 p:=⟨(hS.get O hp).trans W0.row,W0.e.keep hS,W0.t.keep hS,W0.d⟩
 rw[j8 ae7 rfl _ sM];by_cases e2:q.op=2
 .rw[ak8 q p oM oM oM,if_neg oM,if_pos e2,if_neg oM];obtain⟨v5,h5,E,I,J,rfl,D,u,_⟩:=jT (QR X lo K true) O H1 p 1 0 oM t0 oM _ we wt W;have ll:E.low<H.next:=oM;refine J7 ac U.symm g1 q0 e2 I J ?_;exact⟨E,rfl,D,u⟩
 by_cases e3:q.op=3
 .rw[ak8 q p oM oM oM,if_neg oM,if_neg e2,if_pos e3,if_neg oM];obtain⟨v5,h5,E,I,J,rfl,D,u,_⟩:=jT (QR X lo K true) O H1 p 2 0 oM t0 oM _ we wt W;have ll:E.low<H.next:=oM;refine J7 ac U.symm g1 q0 e3 I J ?_;exact⟨E,rfl,D,u⟩
 have b2:decide (q.op=2)=false:=decide_eq_false e2;have b3:decide (q.op=3)=false:=decide_eq_false e3;by_cases e4:q.op=4
 .rw[pN q p e4];have e1:lst false q.op=2:=by rw[e4];decide
  rw[e1]at l1;obtain⟨v5,h5,E,I,J,rfl,D,u,_⟩:=XF X lo K k ih H1 O c4 b0 (.slice va q.a.length ca) q.a h1 h3 oM c6 p ⟨t0,oM,oM,oM⟩ _ we wt W;have ll:E.low<H.next:=oM;refine J8 ac U.symm g1 q0 q1 e4 I J ?_;exact⟨E,rfl,D,u⟩
 by_cases e5:q.op=5
 .rw[pM q p e5];obtain⟨v5,h5,E,I,J,rfl,D,u,_⟩:=XG X lo K k ih H1 O c4 b0 (.slice va q.a.length ca) q.a h1 h3 c6 p ⟨t0,oM,oM,oM⟩ _ rfl _ we wt W;have ll:E.low<H.next:=oM;refine J8 ac U.symm g1 q0 q1 e5 I J ?_;exact⟨E,rfl,D,u⟩
 by_cases e6:q.op=6
 .have e1:lst false q.op=1/\mst false q.op=1:=by rw[e6];decide
  rw[e1.1]at l1;rw[e1.2]at l2;obtain⟨x,nb,o,j3,own,el,hx,hd,rfl,i2,g4,i1,a9,hR⟩:=h1.row (i:=0) oM;simp only[qSz,bF,Nat.zero_mul,Nat.add_zero]at a9 g4 i1;have c3:q.a=[x]:=by
   obtain⟨y,hy⟩:=List.length_eq_one_iff.1 (show q.a.length=1 from oM);rw[hy]at hx ⊢;simpa using hx
  have k7:nL q.a=nQ x:=by rw[c3,nL,nL];omega
  rw[mP q p e6 c3];obtain⟨H2,d6,d3,k3,_,n2⟩:=cJ W t0 oM;have d1:∀j,j<O->H2.get j=(⟨H.bs,H.next⟩:d9).get j:=d3.stay.get;have d0:∀j,j<lo->H2.get j=X.get j:=fun j hj=>by rw[d1 j oM];exact e9 j hj
  have g7:=(d0 nb i2).trans g4;have g2:H2.get H.next=cE cs 1:=by
   obtain⟨g5,d8,d4,_⟩:=cJ W1.start t0 oM;have:g5=H2:=by
    have:=d8.symm.trans d6
    simpa using this
   subst this;obtain⟨_,_,_,c8,_⟩:=d4.w;rw[c8 H.next oM oM (fun q=>by have:=W0.e.lt q;omega) (fun q=>by have:=W0.t.lt q;omega)];exact g1
  obtain⟨v3,k0,H3,e8,f1,rfl,d5,k4,_⟩:=ih H2 O el x {p with st:=p.st+1} c4 d0 hR (c6 x (by rw[c3];simp)) ⟨by show 0<=p.st+1;omega,by show p.st+1+_<=_;omega,by show p.ed.length+_<=_;omega,by show p.ts.length+_<=_;omega⟩ _ we wt d3;have g3:=E8 x {p with st:=p.st+1};obtain⟨z,hz⟩:∃z,z=C5 x {p with st:=p.st+1}:=eX;rw[<-hz]at e8 d5 g3 ⊢;obtain⟨u0,u1,u2,u3⟩:=g3;simp only at u0 u1 u2 u3;obtain⟨v4,h4,H4,h6,f2,rfl,g8,k5,_⟩:=gU (QR X lo K true) O H3 z.1 p.st z.2.1 oM _ we wt d5;obtain⟨v5,h5,E,h8,a6,rfl,D,u,_⟩:=gU (QR X lo K true) O H4 (z.1.edge p.st z.2.1 0 0) z.2.2 p.st (by rw[N8];omega) _ we wt g8;have ll:E.low<H.next:=oM;have k2:(0:Int)<q.a.length:=oM;refine J16 ac U.symm g1 q0 q1 e6 d6 g2 g7 a9 e8 f1 h6 f2 h8 a6 ?_;exact⟨E,rfl,D,u⟩
 have b4:decide (q.op=4)=false:=decide_eq_false e4;have b5:decide (q.op=5)=false:=decide_eq_false e5;have b6:decide (q.op=6)=false:=decide_eq_false e6;by_cases e7:q.op=7
 .rw[ak8 q p e4 e5 e6,if_pos e7,if_neg e2,if_neg e3,if_pos e7,if_pos e7];have j0:=o7.1 e7;obtain⟨a3,h5,E,b9,a6,b8,S⟩:=W1.t.appendF (P:=prog) (t:=23) (n:=lo) (l2:=q.b) (x:= .slice wa q.b.length c9) (by exact pI.2.2.2.2.2.2) aW.1 aW.2.1 aW.2.2.1 oM oM (SlI.mono h2 (fun j hj=>b0 j hj) lR (fun _ _ h=>h.upTo hk)) oM oM;have n5:=S.next;have j1:¬j9 a8 O:=fun q=>oN (W1.t.lt q);have d2:E.get O=cE [iV p.st,iV p.sa,iV p.en,a2,a8] 1:=(S.but O oM j1).trans W1.row;obtain⟨a5,c5,a7⟩:=b8.slice;have cw:a3.cells.toList=[a3]:=by rw[a7];rfl
  have ow:Value.oneCell' a3=true:=by rw[a7];rfl
  obtain⟨a0,c0,g6⟩:=W1.t.slice;obtain⟨H6,a1⟩:=eY (E.put O (bC [iV p.st,iV p.sa,iV p.en,a2,a3] 1));have n6:H6.next=E.next:=by rw[a1,j5]
  have b1:H6.get O=cE [iV p.st,iV p.sa,iV p.en,a2,a3] 1:=by rw[a1];exact i8 oM
  have k6:∀j,j≠O->H6.get j=E.get j:=fun j hj=>by rw[a1,i9 (fun q=>hj q.symm)]
  have P6:PgS (QR X lo K true) O H1 a2 a8 H6 {p with ts:=p.ts++q.b}:=by
   refine⟨⟨a2,a3,b1,W1.e.same fun b hb=>?_,b8.same fun b hb=>k6 b (oN (b8.lt hb)),fun b hb q=>?_,fun j hj q1 q2 q3=>by rw[k6 j q1,S.but j hj q3],fun _ h=> .inl h,S.new⟩,?_⟩
   .have:=W1.e.lt hb;rw[k6 b oM,S.but b this.2 (W1.d b hb)]
   .have:=W1.e.lt hb;rcases S.new b q with r|r
    .exact W1.d b hb r
    .omega
   .rw[a1];exact(S.stay.weaken oM).trans (i4.put lR)
  have g9:=W.trans' P6 W1.row;have u:(p.ts++q.b).length=p.ts.length+1:=by rw[List.length_append,j0]
  have ei:(((p.ts++q.b).length:Nat):Int)-1=(p.ts.length:Int):=by rw[u];omega
  obtain⟨v7,h7,H7,h9,g0,rfl,h0,i0,_⟩:=jT (QR X lo K true) O H6 {p with ts:=p.ts++q.b} 3 p.ts.length (by show p.ed.length+1<=_;omega) t0 (by show p.st<=_;omega) _ we wt g9;have ll:H7.low<H.next:=oM;have j4:H6.get H.next=cE cs 1:=by rw[k6 _ oM,S.but _ oM (fun q=>by have:=W0.t.lt q;omega)];exact g1
  rw[a7]at cw ow b1 a1;have c7:=W1.row;rw[g6]at c7 d2 b9;rw[a7]at b9;refine J16 ac U.symm g1 q0 q2 e7 c7 b9 a6 d2 a1.symm b1 ei h9 g0 @wrap_small ?_;exact⟨H7,rfl,h0,i0⟩
 .have b7:decide (q.op=7)=false:=decide_eq_false e7;rw[ak8 q p e4 e5 e6,if_neg e7,if_neg e2,if_neg e3,if_neg e7,if_neg e7];obtain⟨v5,h5,E,I,J,rfl,D,u,_⟩:=jT (QR X lo K true) O H1 p 0 0 oM t0 oM _ we wt W;have ll:E.low<H.next:=oM;refine J12 ac U.symm g1 q0 b2 b3 b4 b5 b6 b7 I J ?_;exact⟨E,rfl,D,u⟩
theorem Ni(h:d9)(lo K:Nat):∀k,k<=K+1->sv h lo K k:=by
 intro k;induction k with
 |zero=>intro _ H D cs q p _ _ u;exact u.elim
 |succ k y=>intro z;exact ah0 h lo K k oM (y oM)
theorem vp(K:Nat)(H:d9)(lo:Nat)(cs:LV)(q:Q)(c0:lo<=H.next)(hr:QR H lo K false cs q)(b1:OkD false q)(b6:nQ q<=100000):
  Ret (CL prog O8 59 [.agg cs.toArray] H) H (yV H (QR H lo K true) (C0 q)):=by
 have a0:=F0 hr;have l0:=hr.len;have S:=M8 hr;rw[l0]at S;simp only[qSz,bF]at S l0;obtain⟨J,D⟩:=eY (((d9.push ⟨H.bs,H.next⟩ (bC cs 1)).push (bC z5 1)).push (bC z5 1));have n0:(d9.push ⟨H.bs,H.next⟩ (bC cs 1)).next=H.next+1:=by rw[i5];rfl
 have b4:((d9.push ⟨H.bs,H.next⟩ (bC cs 1)).push (bC z5 1)).next=H.next+2:=by rw[i5,n0]
 have n1:J.next=H.next+3:=by rw[D,i5,b4]
 have hS:i4 H.next H J:=by rw[D];exact((i4.first H _).trans (i4.push oM)).trans (i4.push oM)
 have g1:J.get H.next=cE cs 1:=by rw[D,j6 oM,j6 oM];exact i7
 have g2:J.get (H.next+1)=cE z5 1:=by rw[D,j6 oM];exact R2 oM
 have g3:J.get (H.next+2)=cE z5 1:=by rw[D];exact R2 oM
 have a3:H.next<=J.low:=by rw[D,O7,O7,O7];exact lR
 have U:PgS (QR H lo K true) (H.next+2) J (nS) (nS) J ⟨0,0,0,[],[]⟩:=PgS.start g3 t7.nil t7.nil (fun b O=>(A9 b O).elim);obtain⟨v3,b9,H2,a1,a2,rfl,hP,hl,_⟩:=Ni H lo K K oM J (H.next+2) cs q ⟨0,0,0,[],[]⟩ oM (fun j hj=>hS.get j oM) hr b1 ⟨by decide,by show(0:Int)+_<=_;omega,by simp;omega,by simp;omega⟩ _ _ _ U;obtain⟨y,hy⟩:=eY (C5 q ⟨0,0,0,[],[]⟩);rw[C0,<-hy];rw[<-hy]at a1 hP;obtain⟨we,wt,W,a4,ne,nt⟩:=hP.w;have n2:=hP.stay.next;obtain⟨ea,ec,e1⟩:=W.e.slice;obtain⟨ta,tc,e2⟩:=W.t.slice;have row0:=W.row;have a7:H2.get (H.next+1)=cE z5 1:=(a4 _ oM oM (A9 _) (A9 _)).trans g2;obtain⟨b7,b2⟩:=eY ([iV y.1.st,iV y.2.1,iV y.1.en,we,wt]:LV);obtain⟨u,z⟩:=eY ([iV y.1.st,iV y.2.1,iV y.2.2,we,wt]:LV);obtain⟨H3,E⟩:=eY ((H2.put (H.next+2) (bC [iV y.1.st,iV y.2.1,iV y.1.en,we,wt] 1)).put (H.next+2) (bC u 1));have n3:H3.next=H2.next:=by rw[E,j5,j5]
 have a9:H3.get (H.next+2)=cE u 1:=by rw[E];exact i8 (by rw[j5];omega)
 have a8:H3.get (H.next+1)=cE z5 1:=by rw[E,i9 oM,i9 oM];exact a7
 have a6:u.all oC=true:=by rw[z,e1,e2];rfl
 have l6:u.length=5:=by rw[z];rfl
 have b3:ldC (some true) (some 5) 0 u=some (.agg u.toArray):=by rw[z];rfl
 have b5:splice z5 0 u=u:=w7 _ _ (by rw[l6];rfl);obtain⟨X,I⟩:=eY (H3.put (H.next+1) (bC u 1));have n4:X.next=H3.next:=by rw[I,j5]
 have g4:X.get (H.next+1)=cE u 1:=by rw[I];exact i8 oM
 have s4:i4 H.next J X:=(hP.stay.weaken oM).trans (by rw[I,E];exact((i4.put oM).trans (i4.put oM)).trans (i4.put oM));have b0:=s4.low a3;have k4:∀j,H.next+2<j->X.get j=H2.get j:=fun j hj=>by rw[I,i9 oM,E,i9 oM,i9 oM]
 have a5:PrF X (fun j=>H.next<=j/\j<X.next) (QR H lo K true) u {y.1 with sa:=y.2.1,en:=y.2.2}:=⟨we,wt,z,(W.e.same fun b O=>k4 b (oN (W.e.lt O))).frz fun b O=>by have:=W.e.lt O;omega,(W.t.same fun b O=>k4 b (oN (W.t.lt O))).frz fun b O=>by have:=W.t.lt O;omega⟩
 have b8:(some (Blk.cells [iV y.1.st,iV y.1.sa,iV y.1.en,we,wt] true 1))=cE [iV y.1.st,iV y.1.sa,iV y.1.en,we,wt] 1:=rfl;rw[j8 ac7 rfl _ sM];rw[z]at E;refine J16 a0 D.symm g1 S a1 a2 @row0 E.symm a9 b3 a8 a6 l6 b5 I.symm g4 ?_;exact qn a5 (hS.trans s4) b0 (fun h=>h)
def bR:List Q->Int->List Int
 |[],_=>[]
 |x::l,n=>n::bR l (n+(C0 x).st)
def eL(L:List Q)(m:PrD):StD:=⟨L,L.map C0,bR L 0,m⟩
theorem nr(l:List PrD):∀n:Int,l.foldl (fun n p=>n+p.st) n=n+y9 l:=by
 induction l with
 |nil=>intro n;simp [y9]
 |cons p l h=>
  intro n;rw[List.foldl_cons,h];show _=n+(p::l).foldl (fun n p=>n+p.st) 0;rw[List.foldl_cons,h (0+p.st)];omega
theorem pj(l l2:List PrD):y9 (l++l2)=y9 l+y9 l2:=by
 show(l++l2).foldl (fun n p=>n+p.st) 0=_;rw[List.foldl_append,nr];rfl
theorem qR(p:PrD)(l:List PrD):y9 (p::l)=p.st+y9 l:=by
 show(p::l).foldl (fun n p=>n+p.st) 0=_;rw[List.foldl_cons,nr];omega
theorem kh(l:List Q)(x:Q):∀n,bR (l++[x]) n=bR l n++[n+y9 (l.map C0)]:=by
 induction l with
 |nil=>intro n;simp [bR,y9]
 |cons y l h=>
  intro n;rw[List.cons_append,bR,h,bR,List.map_cons,qR,List.cons_append]
  congr 3;omega
theorem uG(x y:Q):M0 x y=M0 y x:=by
 rw[Bool.eq_iff_iff,iT,iT];exact eq_comm
theorem rV(L:List Q)(m:PrD)(x:Q):ni (eL L m) x=eL (aF L x) m:=by
 have:(eL L m).paths.any (fun y=>M0 y x)=L.any (fun y=>M0 x y):=by
  show L.any _=_
  congr 1;funext y;exact uG y x
 rw[ni,this,aF];split
 .rfl
 .simp only[eL,List.map_append,kh,Int.zero_add];rfl
theorem yE(q:Q):D0 q=eL ((inQ false q).foldl aF []) (C0 q):=by
 have:∀(l L:List Q)(m:PrD),l.foldl ni (eL L m)=eL (l.foldl aF L) m:=by
  intro l;induction l with
  |nil=>intro L m;rfl
  |cons x l h=>intro L m;rw[List.foldl_cons,rV,h,List.foldl_cons]
 exact this (inQ false q) [] (C0 q)
theorem as6(l:List Q)(P:Q->Prop)(z:∀x∈l,P x):∀L:List Q,(∀x∈L,P x)->∀x∈l.foldl aF L,P x:=by
 induction l with
 |nil=>intro L h;exact h
 |cons y l D=>
  intro L h;rw[List.foldl_cons];refine D (fun x u=>z x (by simp [u])) _ fun x u=>?_;unfold aF at u;split at u
  .exact h x u
  .rcases List.mem_append.1 u with u|u
   .exact h x u
   .have:x=y:=by simpa using u
    rw[this];exact z y sM
theorem xM(K:Nat)(Hs:d9)(lo n0 z:Nat)(m6:lo<=n0)(m9:n0<=z)(X:Value)(l:List Q)(hl:l.length<=100000)(j4:∀x∈l,OkD false x/\nQ x<=1000) (ms:LV) (m:PrD) (H1:d9) (j1:∀j,j<lo->H1.get j=Hs.get j) (t2:Value):
  ∀kk e H2,(∃(i:Nat)(w2 w3:Value)(G:Nat->Prop),kk=l.length-i/\i<=l.length/\e.get 2=t2/\e.get 4=pT z/\e.get 5=iV (y9 ((l.take i).map C0))/\e.get 17=X/\e.get 18=iV l.length/\e.get 19=iV i/\0<=y9 ((l.take i).map C0)/\y9 ((l.take i).map C0)<=2000*i/\
    H2.get z=cE (X::w2::w3::ms) 1/\PrF H2 G (QR Hs lo K true) ms m/\SlF H2 G 3 (QR Hs lo K false) X l/\t7 H2 (z+1) 5 (PrF H2 G (QR Hs lo K true)) w2 ((l.take i).map C0)/\t7 H2 (z+1) 1 (R1 inE) w3 (bR (l.take i) 0)/\
    (∀j,G j->n0<=j/\j<H2.next/\j≠z/\¬j9 w2 j/\¬j9 w3 j)/\(∀j,j9 w2 j->¬j9 w3 j)/\i4 n0 H1 H2)->
  u9 (LE prog O8 (.loop Fy) e H2) (fun o e H2=>o= .exit 0/\e.get 2=t2/\e.get 4=pT z/\∃(w2 w3:Value)(G:Nat->Prop),H2.get z=cE (X::w2::w3::ms) 1/\PrF H2 G (QR Hs lo K true) ms m/\SlF H2 G 3 (QR Hs lo K false) X l/\t7 H2 (z+1) 5 (PrF H2 G (QR Hs lo K true)) w2 (l.map C0)/\t7 H2 (z+1) 1 (R1 inE) w3 (bR l 0)/\(∀j,G j->n0<=j/\j<H2.next/\j≠z)/\i4 n0 H1 H2):=by
 refine j7 _ _ ?_;rintro kk e H2 ⟨i,w2,w3,G,m4,hi,f2,f4,f5,f17,f18,f19,m2,m3,g4,d1,b5,a3,E,hG,d2,hS⟩;have m7:=hS.next;have g2:=u6 g4;rcases b:decide ((i:Int)<l.length)with _|_
 .have i3:=dF b;have:l.take i=l:=List.take_of_length_le oM;rw[this]at a3 E;refine J3 f18 f19 b ?_;exact l7 ⟨rfl,f2,f4,w2,w3,G,g4,d1,b5,a3,E,fun j u=>⟨(hG j u).1,(hG j u).2.1,(hG j u).2.2.1⟩,hS⟩
 have i3:=dT b;have g0:=b5.slice;obtain⟨la,lc,c3⟩:=g0;have b9:=b5;rw[c3]at b9;obtain⟨x,nb,o,l3,own,el,hx,hd,j3,m1,j2,m5,g7,hc,hR⟩:=b9.row (i:=i) oM;subst j3;have nt:(i:Int).toNat=i:=tN i;obtain⟨g1,m8⟩:=j4 x (mG hx);have k9:=cy x;have d3:l.take (i+1)=l.take i++[x]:=by rw[List.take_add_one,hx];rfl
 have a1:=F0 hR;have e1:=hR.len;simp only[qSz,bF]at e1;have g8:=M8 hR;rw[e1]at g8;have h8:∀j,j<lo->H2.get j=Hs.get j:=fun j u=>by rw[hS.get j oM,j1 j u]
 obtain⟨H3,i1,n3,g3,s3⟩:=pushP H2 (bC [iV 0,nS,nS] 1) (bC el 1);have k5:splice [iV 0,nS,nS] 0 el=el:=w7 _ _ (by rw[e1];rfl);have d4:∀j,j<lo->H3.get j=Hs.get j:=fun j u=>by rw[s3.get j oM,h8 j u]
 obtain⟨v3,l4,H4,j0,f1,D,rfl,a4,s4⟩:=vp K H3 lo el x oM (hR.mono d4 lR) g1 oM;have n4:=s4.next;have a5:=fd a4;have l5:=aV a4;have g6:PrF H4 (fun j=>H3.next<=j/\j<H4.next) (QR Hs lo K true) D (C0 x):=a4.mono (fun _ _=>rfl) (fun _ h=>h) (fun _ _ h=>h.mono (fun j u=>(d4 j u).symm) lR);obtain⟨H5,i2,n5,g5,s5⟩:=pushP H4 (bC z5 1) (bC D 1);have k8:splice z5 0 D=D:=w7 _ _ (by rw[l5];rfl);have b2:i4 H2.next H2 H5:=(s3.trans (s4.weaken oM)).trans (s5.weaken oM);have b3:H5.get z=cE (X::w2::w3::ms) 1:=(b2.get z g2).trans g4;have g9:=aV d1;obtain⟨G2,c6⟩:=eY (fun j=>G j\/(H3.next<=j/\j<H4.next):Nat->Prop);have U:∀j,G j->G2 j:=fun j u=>by rw[c6];exact .inl u
 have b6:∀j,G2 j->n0<=j/\j<H4.next/\j≠z/\¬j9 w2 j/\¬j9 w3 j:=fun j u=>by
  rw[c6]at u;rcases u with u|u
  .have:=hG j u;exact⟨this.1,oM,this.2.2⟩
  .exact⟨oM,u.2,oM,fun q=>by have:=a3.lt q;omega,fun q=>by have:=E.lt q;omega⟩
 have b1:∀j,G j->H5.get j=H2.get j:=fun j u=>b2.get j (hG j u).2.1;have h0:∀j,(H3.next<=j/\j<H4.next)->H5.get j=H4.get j:=fun j u=>s5.get j u.2;have d0:PrF H5 G2 (QR Hs lo K true) D (C0 x):=g6.mono h0 (fun j u=>by rw[c6];exact .inr u) iF;have e7:t7 H5 (z+1) 5 (PrF H5 G2 (QR Hs lo K true)) w2 ((l.take i).map C0):=(a3.keep b2).imp fun cs p h=>h.mono b1 U iF;obtain⟨u2,l6,H7,e9,b7,a2,J⟩:=e7.push1F (P:=prog) (t:=28) (cs:=D) (a:=C0 x) (by exact NP.2.2.2.2.2.2) mK.1 mK.2.1 mK.2.2.1 oM oM l5 d0 (by simp;omega) oM;have n7:=J.next;obtain⟨H6,c8,n6,-⟩:=pushE H5 (bC D 5);rw[<-c8]at e9 b7;have e4:H6.get z=cE (X::w2::w3::ms) 1:=by rw[c8,j6 oM];exact b3
 have b4:H7.get z=cE (X::w2::w3::ms) 1:=(J.but z oM (fun q=>by have:=a3.lt q;omega)).trans b3;have e8:t7 H7 (z+1) 1 (R1 inE) w3 (bR (l.take i) 0):=(E.keep b2).same fun b hb=>J.but b (oN (E.lt hb)) (fun q=>d2 b q hb);obtain⟨u3,m0,H9,f0,b8,a8,W⟩:=e8.push1F (P:=prog) (t:=29) (cs:=inE (y9 ((l.take i).map C0))) (a:=y9 ((l.take i).map C0)) (by exact yL.2.2.2.2.2.2) ty3.1 ty3.2.1 ty3.2.2.1 oM oM rfl rfl (by
  have:∀(l:List Q) n,(bR l n).length=l.length:=by
   intro l;induction l with
   |nil=>intro n;rfl
   |cons y l ih=>intro n;rw[bR,List.length_cons,ih,List.length_cons]
  rw[this];simp;omega) oM
 have n9:=W.next;obtain⟨H8,c9,n8,-⟩:=pushE H7 (.cells (inE (y9 ((l.take i).map C0))) true 1);rw[<-c9]at f0 b8;have e5:H8.get z=cE (X::w2::w3::ms) 1:=by rw[c9,j6 oM];exact b4
 have e6:H9.get z=cE (X::w2::w3::ms) 1:=(W.but z oM (fun q=>by have:=E.lt q;omega)).trans b4;obtain⟨ub,o1,d5⟩:=a2.slice;have k1:Value.oneCell' u2=true:=by rw[d5];rfl
 have h6:u2.cells.toList=[u2]:=by rw[d5];rfl
 obtain⟨o0,l1,d6⟩:=a8.slice;have k2:Value.oneCell' u3=true:=by rw[d6];rfl
 have h7:u3.cells.toList=[u3]:=by rw[d6];rfl
 obtain⟨R8,a9⟩:=eY (X::w2::w3::ms);rw[<-a9]at b3 e4 b4 e5 e6;have l8:R8.length=8:=by rw[a9];simp [g9]
 have k3:R8[1]?=some w2:=by rw[a9];rfl
 have k4:R8[2]?=some w3:=by rw[a9];rfl
 obtain⟨a7,b0⟩:=eY (X::u2::w3::ms);have k6:splice R8 1 [u2]=a7:=by rw[a9,b0];rfl
 have lb:a7.length=8:=by rw[b0];simp [g9]
 have k7:splice a7 2 [u3]=X::u2::u3::ms:=by rw[b0];rfl
 obtain⟨a6,O⟩:=eY (H9.put z (bC a7 1));have n1:a6.next=H9.next:=by rw[O,j5]
 have e2:a6.get z=cE a7 1:=by rw[O];exact i8 oM
 obtain⟨I,S⟩:=eY (a6.put z (bC (X::u2::u3::ms) 1));have n2:I.next=a6.next:=by rw[S,j5]
 have h9:I.get z=cE (X::u2::u3::ms) 1:=by rw[S];exact i8 oM
 have c4:∀j,j≠z->I.get j=H9.get j:=fun j u=>by rw[S,i9 (fun q=>u q.symm),O,i9 (fun q=>u q.symm)]
 have d8:∀j,j<H5.next->j≠z->¬j9 w2 j->¬j9 w3 j->I.get j=H5.get j:=fun j u h1 h2 h3=>by rw[c4 j h1,W.but j oM h3,J.but j u h2]
 have e3:I.get H4.next=cE D 1:=(d8 _ oM oM (fun q=>by have:=a3.lt q;omega) (fun q=>by have:=E.lt q;omega)).trans g5;have k0:ldC (some true) (some 5) 0 D=some (.agg D.toArray):=by obtain⟨_,_,_,_,rfl,_⟩:=E1 a4;rfl
 have h5:D[0]?=some (.int .i64 (C0 x).st):=by obtain⟨_,_,_,_,rfl,_⟩:=E1 a4;rfl
 have h4:bsA prog (some 32) H5 1 [(0,.agg D.toArray)]=some (sL H5.next 1 1,H6):=by
  rw[c8];obtain⟨_,_,_,_,rfl,_⟩:=E1 a4;simp only[C7,mK,C8];rfl
 have i0:=j2;have c7:I=a6.put z (.cells (.slice (some ⟨nb,o,none⟩) l.length lc::u2::u3::ms) true 1):=by rw[S,c3]
 refine J30 f4 f5 f17 f18 f19 c3 b i0 nt (aI g7 a1) (aI e1 k5) (aI i1.symm g3) (aI g8 j0) (aI f1 a5) (aI l5 k8) (aI i2.symm g5) (aI b3 e4) (aI b4 e5) (aI e6 k3) (aI k4 k0) (aI h4 e9) (aI b7 c9.symm) (aI f0 b8) (aI l8 k1) (aI h6 k6) (aI O.symm e2) (aI lb k2) (aI h7 k7) (aI c7.symm e3) (aI h5 @wrap_small) ?_;have c5:∀j,G2 j->I.get j=H5.get j:=fun j u=>by
  obtain⟨q1,q2,q3,q4,q5⟩:=b6 j u;exact d8 j oM q3 q4 q5
 have c0:y9 ((l.take (i+1)).map C0)=y9 ((l.take i).map C0)+(C0 x).st:=by rw[d3,List.map_append,pj,List.map_singleton];simp [y9]
 have eb:bR (l.take (i+1)) 0=bR (l.take i) 0++[y9 ((l.take i).map C0)]:=by rw[d3,kh,Int.zero_add]
 have em:(l.take (i+1)).map C0=(l.take i).map C0++[C0 x]:=by rw[d3,List.map_append];rfl
 refine i6 (kk-1) oM ⟨i+1,u2,u3,G2,oM,oM,f2,f4,by rw[c0];rfl,f17,f18,rfl,by rw[c0];omega,by rw[c0];omega,h9,?_,?_,?_,?_,?_,?_,?_⟩
 .exact d1.mono (fun j u=>by rw[c5 j (U j u),b1 j u]) U iF
 .exact b5.mono (fun j u=>by rw[c5 j (U j u),b1 j u]) U iF
 .rw[em];refine(a2.same (H':=I) fun b hb=>?_).imp fun cs p h=>h.mono c5 (fun _ h=>h) iF;have h1:=a2.lt hb;have h2:¬j9 w3 b:=by
   rcases J.new b hb with q|q
   .exact d2 b q
   .exact fun q=>oN (E.lt q)
  rw[c4 b oM,W.but b oM h2]
 .rw[eb];exact a8.same fun b hb=>c4 b (oN (a8.lt hb))
 .intro j u;obtain⟨q1,q2,q3,q4,q5⟩:=b6 j u;refine⟨q1,oM,q3,fun q=>?_,fun q=>?_⟩
  .rcases J.new j q with q|q
   .exact q4 q
   .omega
  .rcases W.new j q with q|q
   .exact q5 q
   .omega
 .intro j u q;have h1:=a2.lt u;rcases W.new j q with q|q
  .have:=E.lt q;rcases J.new j u with r|r
   .exact d2 j r q
   .omega
  .omega
 .exact(((hS.trans (b2.weaken oM)).trans (J.stay.weaken oM)).trans (W.stay.weaken oM)).trans (by rw[S,O];exact(i4.put oM).trans (i4.put oM))
theorem uO(K:Nat)(H:d9)(lo:Nat)(cs:LV)(q:Q)(h8:lo<=H.next)(hr:QR H lo K false cs q)(b3:OkD false q)(h5:nQ q<=1000):
  Ret (CL prog O8 32 [.agg cs.toArray] H) H (sB H (QR H lo K false) (QR H lo K true) (D0 q)):=by
 have a0:=F0 hr;have l0:=hr.len;have b4:=M8 hr;rw[l0]at b4;simp only[qSz,bF]at b4 l0;obtain⟨W,J⟩:=eY (((d9.push ⟨H.bs,H.next⟩ (bC cs 1)).push (bC z8 1)).push (bC [nS] 1));have n0:(d9.push ⟨H.bs,H.next⟩ (bC cs 1)).next=H.next+1:=by rw[i5];rfl
 have g8:((d9.push ⟨H.bs,H.next⟩ (bC cs 1)).push (bC z8 1)).next=H.next+2:=by rw[i5,n0]
 have n1:W.next=H.next+3:=by rw[J,i5,g8]
 have hS:i4 H.next H W:=by rw[J];exact((i4.first H _).trans (i4.push oM)).trans (i4.push oM)
 have g1:W.get H.next=cE cs 1:=by rw[J,j6 oM,j6 oM];exact i7
 have g2:W.get (H.next+1)=cE z8 1:=by rw[J,j6 oM];exact R2 oM
 have g3:W.get (H.next+2)=cE [nS] 1:=by rw[J];exact R2 oM
 have c4:H.next<=W.low:=by rw[J,O7,O7,O7];exact lR
 have g6:QR W lo K false cs q:=hr.mono (fun j y=>hS.get j oM) lR;obtain⟨v2,h2,H2,f0,b9,rfl,⟨⟨w,gm,hO,_,b6,h9⟩,s2⟩,_⟩:=(Et K).1 W lo (H.next+2) K (nS) [] cs q lR oM g3 t7.nil g6 b3 (by simp;omega);have n2:=s2.next;have d6:H2.get H.next=cE cs 1:=(b6 _ oM oM (A9 _)).trans g1;have d8:H2.get (H.next+1)=cE z8 1:=(b6 _ oM oM (A9 _)).trans g2;obtain⟨h7,c6⟩:=bH _ false q lR b3;obtain⟨L,hL⟩:=eY ((inQ false q).foldl aF []);have h6:L.length<=1000:=by have:=bw (inQ false q) [];rw[<-hL]at this;simp at this;omega
 have e9:∀x∈L,OkD false x/\nQ x<=1000:=by
  rw[hL];exact as6 _ _ (fun x hx=>by have:=c6 x hx;exact⟨this.1,oM⟩) [] sM
 rw[<-hL]at hO;rw[yE,<-hL];obtain⟨wa,wc,ew⟩:=hO.slice;have a9:∀j,j<lo->H2.get j=H.get j:=fun j y=>by rw[s2.get j oM,hS.get j oM]
 obtain⟨v3,h3,X,f1,c0,E,rfl,a4,s3⟩:=vp K H2 lo cs q oM (hr.mono a9 lR) b3 oM;have n3:=s3.next;have a5:=fd a4;have l5:=aV a4;have d0:PrF X (fun j=>H2.next<=j/\j<X.next) (QR H lo K true) E (C0 q):=a4.mono (fun _ _=>rfl) (fun _ h=>h) (fun _ _ h=>h.mono (fun j y=>(a9 j y).symm) lR);obtain⟨ea,ec,ta,tc,c7,he,ht⟩:=E1 a4;have b0:X.get (H.next+2)=cE [w] 1:=(s3.get _ oM).trans gm;obtain⟨H4,b1,n4,e1,-⟩:=pushE X (bC z8 1);have e7:H4.get (H.next+2)=cE [w] 1:=by rw[b1,j6 oM];exact b0
 obtain⟨I,O⟩:=eY (w::nS::nS::E:LV);have a8:I.length=8:=by rw[O];simp [l5]
 have ow:Value.oneCell' w=true:=by rw[ew];rfl
 have cw:w.cells.toList=[w]:=by rw[ew];rfl
 have b5:I.all oC=true:=by rw[O];simp only[List.all_cons,a5,ow];rfl
 have h1:splice (splice z8 0 [w]) 3 E=I:=by rw[O,c7];rfl
 have d2:splice [w,nS,nS,iV 0,iV 0,iV 0,nS,nS] 3 E=I:=h1;have h4:splice z8 0 I=I:=w7 _ _ (by rw[a8];rfl);obtain⟨S,a1⟩:=eY (H4.put X.next (bC I 1));have n5:S.next=H4.next:=by rw[a1,j5]
 have s5:i4 X.next X S:=by rw[a1,b1];exact(i4.push lR).trans (i4.put lR)
 have g5:S.get X.next=cE I 1:=by rw[a1];exact i8 oM
 have e8:S.get (H.next+2)=cE [w] 1:=(s5.get _ oM).trans b0;have a7:i4 H2.next H2 S:=s3.trans (s5.weaken oM);have e4:S.get (H.next+1)=cE z8 1:=(a7.get _ oM).trans d8;have d3:∀j,j<lo->S.get j=H.get j:=fun j y=>by rw[a7.get j oM,a9 j y]
 obtain⟨G,hG⟩:=eY (fun j=>j9 w j\/(H2.next<=j/\j<X.next):Nat->Prop);have g4:SlF S G 3 (QR H lo K false) w L:=((hO.keep a7).frz fun b hb=>by rw[hG];exact .inl hb).mono (fun _ _=>rfl) (fun _ h=>h) (fun _ _ h=>h.mono (fun j y=>(hS.get j oM).symm) lR);have c8:PrF S G (QR H lo K true) E (C0 q):=d0.mono (fun j y=>s5.get j y.2) (fun j y=>by rw[hG];exact .inr y) iF;have g9:i4 H.next W S:=(s2.weaken oM).trans (a7.weaken oM);have d4:w= .slice wa L.length wc:=ew;have c3:∀Hx:d9,D3 prog .len [22] [w] Hx=some (.int .i64 L.length,none):=fun Hx=>by
  rw[d4];exact J1 jL trivial
 rw[j8 ab1 rfl _ sM];refine J25 a0 J.symm g1 b4 f0 b9 gm d6 f1 c0 b0 b1.symm e7 ow cw l5 a5 d2 a8 b5 h4 e1 a1.symm e8 c3 ?_;refine l9 (F:=fun z=>Ret (u5 _ _ _ (u7 (inBlock 0 z) _)) _ _) (xM K H lo (H.next+3) X.next oM oM w L oM e9 E (C0 q) S d3 (pT (H.next+1)) L.length _ _ ⟨0,nS,nS,G,rfl,oM,rfl,rfl,rfl,rfl,rfl,rfl,by simp [y9],by simp [y9],by rw[<-O];exact g5,c8,g4,t7.nil,t7.nil,fun j y=>?_,fun j y=>(A9 j y).elim,i4.refl _ _⟩) ?_
 .rw[hG]at y;rcases y with y|y
  .have:=hO.lt y;exact⟨oM,oM,oM,A9 j,A9 j⟩
  .exact⟨oM,oM,oM,A9 j,A9 j⟩
 rintro o e' H6 ⟨ho,f2,f4,w2,w3,G',b7,c9,c5,a2,a3,b8,b2⟩;have n6:=b2.next;have e5:H6.get (H.next+1)=cE z8 1:=(b2.get _ oM).trans e4;obtain⟨rb,rd,e2⟩:=a2.slice;obtain⟨re,rf,e3⟩:=a3.slice;obtain⟨u,D⟩:=eY (w::w2::w3::E:LV);rw[<-D]at b7;have g7:ldC (some true) (some 8) 0 u=some (.agg u.toArray):=by rw[D,e2,e3,c7];rfl
 have a6:u.all oC=true:=by rw[D,e2,e3];simp only[List.all_cons,a5,ow];rfl
 have l6:u.length=8:=by rw[D];simp [l5]
 have h0:splice z8 0 u=u:=w7 _ _ (by rw[l6];rfl);obtain⟨H7,U⟩:=eY (H6.put (H.next+1) (bC u 1));have n7:H7.next=H6.next:=by rw[U,j5]
 have e6:H7.get (H.next+1)=cE u 1:=by rw[U];exact i8 oM
 have d1:i4 H.next W H7:=by rw[U];exact(g9.trans (b2.weaken oM)).trans (i4.put oM)
 have s7:i4 H.next H H7:=hS.trans d1;have g0:H.next<=H7.low:=d1.low c4;have k7:∀j,H.next+2<=j->H7.get j=H6.get j:=fun j y=>by rw[U,i9 oM]
 have d5:StF H7 (fun j=>H.next<=j/\j<H7.next) (QR H lo K false) (QR H lo K true) u (eL L (C0 q)):=by
  have gg:∀j,G' j->H7.get j=H6.get j:=fun j y=>k7 j (oN (b8 j y));have gs:∀j,G' j->H.next<=j/\j<H7.next:=fun j y=>oN (b8 j y);refine⟨w,w2,w3,E,D,?_,?_,?_,?_⟩
  .exact c5.mono gg gs iF
  .exact((a2.same fun b hb=>k7 b (oN (a2.lt hb))).imp fun cs p h=>h.mono gg gs iF).frz fun b hb=>oN (a2.lt hb)
  .exact(a3.same fun b hb=>k7 b (oN (a3.lt hb))).frz fun b hb=>oN (a3.lt hb)
  .exact c9.mono gg gs iF
 refine J11 ho f2 f4 b7 g7 e5 a6 l6 h0 U.symm e6 ?_;exact od d5 s7 g0 (fun h=>h)
def az9(b:Bool):Value:= .int .u8 (if b then 1 else 0)
def wB(b:Bool):LV:=[az9 b]
structure PWf(p:PrD):Prop where
 st:0<=p.st/\p.st<=1000000
 sa:0<=p.sa/\p.sa<p.st
 en:0<=p.en/\p.en<p.st
 ed:∀x∈p.ed,0<=x.1/\x.1<p.st/\0<=x.2.1/\x.2.1<p.st/\(x.2.2.1=3->0<=x.2.2.2/\x.2.2.2<p.ts.length)
structure WfS(s:StD)(n:Nat):Prop where
 l1:s.progs.length=s.paths.length
 l2:s.base.length=s.paths.length
 l0:s.paths.length<=100000
 nle:n<=1000000
 at_:∀(i:Nat) p b,s.progs[i]?=some p->s.base[i]?=some b->0<=b/\b+p.st<=n/\PWf p
def Y1(k:Int)(nm:NmQ):List AtD->ByteArray×Bool
 |[]=>(eB,false)
 |a::l=>if Q3 (a.space,a.loc) nm then(a.val,decide (k=1)) else Y1 k nm l
def iY(bs:List Bool)(n:Int):Bool:=bs.getD n.toNat false
def kU(s:StD)(bs:List Bool)(p:Q):Bool:=decide (0<=jj s.paths p)&&iY bs (s.base.getD (jj s.paths p).toNat 0+(s.progs.getD (jj s.paths p).toNat ⟨0,0,0,[],[]⟩).sa)
mutual
def R7(s:StD)(e:EvD)(bs:List Bool):Q->Bool
 | .mk o sp lc vl a b=>if o=1 then true else if o=2 then decide (e.kind=1) else if o=3 then !decide (e.kind=1) else if o=4 then decide (e.kind=1)&&Q3 (e.space,e.loc) (sp,lc) else
  if o=5 then(Y1 e.kind (sp,lc) e.attrs).2 else if o=6 then(Y1 e.kind (sp,lc) e.attrs).2&&decide ((Y1 e.kind (sp,lc) e.attrs).1=vl) else if o=7 then !decide (e.kind=1)&&decide (e.text=vl) else
  if o=8\/o=9 then(anyF s e bs a==decide (o=8)) else if o=10 then anyH s e bs a else b.any (kU s bs)
def anyH(s:StD)(e:EvD)(bs:List Bool):List Q->Bool
 |[]=>false
 |x::l=>R7 s e bs x||anyH s e bs l
def anyF(s:StD)(e:EvD)(bs:List Bool):List Q->Bool
 |[]=>false
 |x::l=> !R7 s e bs x||anyF s e bs l
end
theorem vi(s:StD)(e:EvD)(bs:List Bool):∀l,anyH s e bs l=l.any (R7 s e bs)
 |[]=>by rw[anyH];rfl
 |x::l=>by rw[anyH,vi s e bs l,List.any_cons]
theorem vh(s:StD)(e:EvD)(bs:List Bool):∀l,anyF s e bs l=l.any (fun x=> !R7 s e bs x)
 |[]=>by rw[anyF];rfl
 |x::l=>by rw[anyF,vh s e bs l,List.any_cons]
theorem xz(s:StD)(e:EvD)(bs:List Bool)(q:Q):R7 s e bs q=if q.op=1 then true else if q.op=2 then decide (e.kind=1) else if q.op=3 then !decide (e.kind=1) else if q.op=4 then decide (e.kind=1)&&Q3 (e.space,e.loc) (q.sp,q.lc) else
  if q.op=5 then(Y1 e.kind (q.sp,q.lc) e.attrs).2 else if q.op=6 then(Y1 e.kind (q.sp,q.lc) e.attrs).2&&decide ((Y1 e.kind (q.sp,q.lc) e.attrs).1=q.vl) else if q.op=7 then !decide (e.kind=1)&&decide (e.text=q.vl) else
  if q.op=8\/q.op=9 then(q.a.any (fun x=> !R7 s e bs x)==decide (q.op=8)) else if q.op=10 then q.a.any (R7 s e bs) else q.b.any (kU s bs):=by
 cases q;rw[R7,vi,vh];rfl
theorem NJ(k:Nat)(H:d9)(lo W:Nat)(h el:LV)(x y:Q)(a2:lo<=H.next)(X:H.get W=cE h 1)(U:QR H lo k false h x)(I:QR H lo k false el y):
  CL prog O8 165 [.agg el.toArray,pT W] H=some (.bool (M0 y x),none):=by
 have a0:el.all oC=true:=F0 I;have u:=M8 U;have z:=M8 I;rw[U.len]at u;rw[I.len]at z;simp only[qSz,bF]at u z;obtain⟨J,D,-,g1,E⟩:=pushF H (bC el 1);have n1:=E.next;have S:=u6 X;have gx:J.get W=cE h 1:=(E.get _ S).trans X;have a1:H.next<=J.low:=by rw[D,O7];exact lR
 have O:=(fw k).1 J lo el h y x oM (I.mono (fun j hj=>E.get j oM) lR) (U.mono (fun j hj=>E.get j oM) lR);rw[j8 Xk rfl _ sM];exact J7 a0 D.symm g1 gx u z O trivial
theorem uM(K:Nat)(H I:d9)(F:Nat->Prop)(lo:Nat)(Rt:LV->Q->Prop)(cs el:LV)(s:StD)(x:Q)(a5:lo<=H.next)(hF:∀j,F j->j<H.next) (W:∀j,j<lo->H.get j=I.get j) (hs:StF H F (QR I lo K false) Rt cs s) (hx:QR I lo K false el x) (hn:s.paths.length<=100000):
  CL prog O8 154 [.agg cs.toArray,.agg el.toArray] H=some (.int .i64 (jj s.paths x),none):=by
 obtain⟨pa,pc,ga,gc,ba,bc,ea,ec,ta,tc,E,h1,h2,h3,h4,h5⟩:=N3 hs;have a0:cs.all oC=true:=by rw[E];rfl
 have r1:cs[0]?=some (.slice pa s.paths.length pc):=by rw[E];rfl
 have a1:=F0 hx;obtain⟨u,z⟩:=eY ((d9.push ⟨H.bs,H.next⟩ (bC cs 1)).push (bC el 1));have n0:(d9.push ⟨H.bs,H.next⟩ (bC cs 1)).next=H.next+1:=by rw[i5];rfl
 have S:i4 H.next H u:=by rw[z];exact(i4.first H _).trans (i4.push oM)
 have g1:u.get H.next=cE cs 1:=by rw[z,j6 oM];exact i7
 have g2:u.get (H.next+1)=cE el 1:=by rw[z];exact R2 oM
 have a4:H.next<=u.low:=by rw[z,O7,O7];exact lR
 have a6:=S.next;have D:∀j,j<lo->u.get j=I.get j:=fun j X=>by rw[S.get j oM,W j X]
 have O:SlF u F 3 (QR u lo K false) (.slice pa s.paths.length pc) s.paths:=h1.mono (fun j X=>S.get j (hF j X)) (fun _ h=>h) (fun _ _ h=>h.mono D lR);have a2:QR u lo K false el x:=hx.mono D lR;have U:=kK (α:=Q) u F (QR u lo K false) (.func (.func 165) #[] #[pT (H.next+1)]) (fun y=>M0 y x) (.slice pa s.paths.length pc) s.paths O oM (fun i y J hy a3=>NJ K _ lo (H.next+1) el J x y (show lo<=u.next from oM) g2 (a2.mono (H:=u) (H':=⟨u.bs,u.next⟩) (fun _ _=>rfl) lR) (a3.mono (H:=u) (H':=⟨u.bs,u.next⟩) (fun _ _=>rfl) lR));rw[j8 Xj rfl _ sM];refine J6 a0 a1 z.symm g1 r1 U ?_;rfl
structure dK(Hs:d9)(lo K pn:Nat)(s:StD)(e:EvD)(bs:List Bool)(F:Nat->Prop)(H:d9):Prop where
 ex:∃rs re ba bc,H.get pn=some (.cells (rs++(re++[.slice ba bs.length bc])) true 1)/\StF H F (QR Hs lo K false) (QR Hs lo K true) rs s/\EvF H F re e/\SlF H F 1 (R1 wB) (.slice ba bs.length bc) bs
 lt:∀j,F j->j<H.next
 eq:∀j,j<lo->H.get j=Hs.get j
 lo:lo<=H.next
theorem dK.work{E:d9}{lo K D:Nat}{s:StD}{e:EvD}{bs:List Bool}{F:Nat->Prop}{H H':d9}(h:dK E lo K D s e bs F H)(y:i4 H.next H H'):dK E lo K D s e bs F H':=by
 obtain⟨⟨rs,re,O,S,I,U,W,X⟩,J,h6,h7⟩:=h;have hn:=y.next;have z:∀j,F j->H'.get j=H.get j:=fun j u=>y.get j (J j u);exact⟨⟨rs,re,O,S,(y.get D (u6 I)).trans I,U.mono z (fun _ h=>h) iF iF,w9 _ _ _ _ _ _ W z (fun _ h=>h),X.mono z (fun _ h=>h) iF⟩,fun j u=>by have:=J j u;omega,fun j u=>by rw[y.get j oM];exact h6 j u,oM⟩
theorem dK.low{u:d9}{lo K y:Nat}{s:StD}{e:EvD}{bs:List Bool}{F:Nat->Prop}{H:d9}(h:dK u lo K y s e bs F H)(n:Nat):dK u lo K y s e bs F ⟨H.bs,n⟩:=by
 obtain⟨⟨rs,X,z,D,E,I,J,O⟩,S,U,W⟩:=h;exact⟨⟨rs,X,z,D,E,I.mono (fun _ _=>rfl) (fun _ h=>h) iF iF,w9 _ _ _ _ _ _ J (fun _ _=>rfl) (fun _ h=>h),O.mono (fun _ _=>rfl) (fun _ h=>h) iF⟩,S,U,W⟩
theorem wx(u:d9)(F:Nat->Prop)(hF:∀j,F j->j<u.next) (X px:Nat) (S:LV) (g:u.get X=cE S 1) (kd:Int) (r8:S[8]?=some (.int .i64 kd)) (D:NmQ) (gx:u.get px=cE (nmE D) 1) (va:Option Addr) (ca:Nat) (l:List AtD) (hv:SlF u F 3 (R1 atE) (.slice va l.length ca) l) (hn:l.length<=1000000) (r:ByteArray×Bool):
  ∀kk e H2,(∃i:Nat,kk=l.length-i/\i<=l.length/\e.get 0=pT X/\e.get 3=pT px/\e.get 12= .slice va l.length ca/\e.get 13=iV l.length/\e.get 14=iV i/\i4 u.next u H2/\Y1 kd D (l.drop i)=r)->
  u9 (LE prog O8 (.loop Ax) e H2) (fun o e H2=>i4 u.next u H2/\((o= .exit 0/\r=(eB,false))\/(o= .ret/\e.get 4= .string r.1/\e.get 5= .bool r.2))):=by
 refine j7 _ _ ?_;rintro kk e H2 ⟨i,hk,hi,f0,f3,f12,f13,f14,E,y⟩;rcases b:decide ((i:Int)<l.length)with _|_
 .have a3:=dF b;have:l.drop i=[]:=dN oM;rw[this,Y1]at y;refine J3 f13 f14 b ?_;exact l7 ⟨E,.inl ⟨rfl,y.symm⟩⟩
 have a3:=dT b;have a7:=E.next;have a4:=u6 g;have a5:=u6 gx;obtain⟨a,nb,o,cs,own,el,hx,hd,rfl,a2,hg,a6,O,hc,rfl⟩:=hv.row (i:=i) oM;have nt:(i:Int).toNat=i:=tN i;have g2:=(E.get nb (hF _ a2)).trans hg;obtain⟨H3,J,n3,g3,s3⟩:=pushP H2 (bC [.string eB,.string eB,.string eB] 1) (bC [.string a.space,.string a.loc,.string a.val] 1);have a1:=(s3.get X oM).trans ((E.get X a4).trans g);have I:=(s3.get px oM).trans ((E.get px a5).trans gx);have h:ldC (some true) (some 3) (o+i*3) cs=some (.agg #[.string a.space,.string a.loc,.string a.val]):=O;have U:i4 u.next u H3:=E.trans (s3.weaken oM);rw[hd,Y1]at y;rcases W:Q3 (a.space,a.loc) D with _|_
 .simp only[W,bF]at y;have z:(decide (a.space=D.1)&&decide (a.loc=D.2))=false:=W;refine J13 f3 f12 f13 f14 b g2 nt h J.symm g3 I z @wrap_small ?_;exact i6 (kk-1) oM ⟨i+1,oM,oM,f0,f3,f12,f13,rfl,U,y⟩
 .simp only[W,if_true]at y;have z:(decide (a.space=D.1)&&decide (a.loc=D.2))=true:=W;refine J15 f0 f3 f12 f13 f14 b g2 nt h J.symm g3 I z a1 r8 ?_;exact A6 ⟨U,.inr ⟨rfl,by rw[<-y];rfl,by rw[<-y];rfl⟩⟩
theorem NF(Hs:d9)(lo K pn:Nat)(s:StD)(e:EvD)(bs:List Bool)(F:Nat->Prop)(H:d9)(hN:dK Hs lo K pn s e bs F H)(D:NmQ)(hl:e.attrs.length<=1000000):
  CL prog O8 135 [pT pn,.agg (nmE D).toArray] H=some (.tuple #[.string (Y1 e.kind D e.attrs).1,.bool (Y1 e.kind D e.attrs).2],none):=by
 obtain⟨H1,J,-,gx,hS⟩:=pushF H (bC (nmE D) 1);have u:H.next<=H1.low:=by rw[J,O7];exact lR
 have U:=hS.next;obtain⟨⟨rs,re,ba,bc,g,hs,⟨av,W,S⟩,hb⟩,hF,_,_⟩:=hN.work hS;obtain⟨pa,pc,ga,gc,xa,xc,ea,ec,ta,tc,X,_⟩:=N3 hs;obtain⟨E,I,rfl⟩:=S.slice;obtain⟨y,h⟩:=eY (rs++(re++[.slice ba bs.length bc]));rw[<-h]at g;have r8:y[8]?=some (.int .i64 e.kind):=by rw[h,X,W];rfl
 have a2:y[11]?=some (.slice E e.attrs.length I):=by rw[h,X,W];rfl
 rw[j8 WX rfl _ sM];refine J3 J.symm g a2 ?_;refine l9 (F:=fun z=>u5 _ _ _ (u7 (inBlock 0 z) _)=_) (wx H1 F hF pn H.next y g e.kind r8 D gx E I e.attrs S hl (Y1 e.kind D e.attrs) e.attrs.length _ _ ⟨0,rfl,oM,rfl,rfl,rfl,rfl,rfl,i4.refl _ _,rfl⟩) ?_;rintro o e' H' ⟨O,⟨ho,hr⟩|⟨ho,h4,h5⟩⟩
 .have a1:=(O.weaken U).low u;exact J2 ho hr trivial
 .have a1:=(O.weaken U).low u;exact J3 ho h4 h5 trivial
theorem NH(Hs:d9)(lo K pn:Nat)(s:StD)(e:EvD)(bs:List Bool)(F:Nat->Prop)(H:d9)(hN:dK Hs lo K pn s e bs F H)(X:WfS s bs.length)(el:LV)(x:Q)(hx:QR Hs lo K false el x):
  CL prog O8 138 [pT pn,.agg el.toArray] H=some (.bool (kU s bs x),none):=by
 have a1:=F0 hx;have J:=M8 hx;rw[hx.len]at J;simp only[qSz,bF]at J;obtain⟨H1,W,-,gx,hS⟩:=pushF H (bC el 1);have d6:H.next<=H1.low:=by rw[W,O7];exact lR
 have f1:=hS.next;obtain⟨⟨rs,re,ba,bc,g,hs,c3,hb⟩,hF,c0,c7⟩:=hN.work hS;have u:=uM K H1 Hs F lo _ rs el s x c7 hF c0 hs hx X.l0;obtain⟨pa,pc,ga,gc,xa,xc,ea,ec,ta,tc,E,h1,h2,h3,_⟩:=N3 hs;obtain⟨av,I,e7⟩:=c3;obtain⟨O,h⟩:=eY (rs++(re++[.slice ba bs.length bc]));rw[<-h]at g;have g2:rs.length=8:=by rw[E];rfl
 have U:ldC (some true) (some 8) 0 O=some (.agg rs.toArray):=by rw[h,E,I];rfl
 have r1:O[1]?=some (.slice ga s.progs.length gc):=by rw[h,E,I];rfl
 have r2:O[2]?=some (.slice xa s.base.length xc):=by rw[h,E,I];rfl
 have d2:O[13]?=some (.slice ba bs.length bc):=by rw[h,E,I];rfl
 rw[j8 Xa rfl _ sM,kU];have D:=eW (fun y=>M0 y x) s.paths 0;obtain⟨z,hz⟩:=eY (jj s.paths x);rw[<-hz]at u ⊢;rw[show ixG (fun y=>M0 y x) s.paths 0=z from hz.symm]at D;rcases b:decide (0<=z)with _|_
 .exact J8 a1 W.symm gx g J U u b trivial
 have e8:=dT b;have a9:z.toNat<s.paths.length:=by rcases D with q|q<;>omega
 obtain⟨xb,nb,o,cs,own,b2,a7,_,rfl,e4,c4,d3,c8,b7,b4⟩:=h3.row (i:=z.toNat) (by rw[X.l2];exact a9);obtain⟨xp,np,op,cp,d8,e3,a8,_,rfl,e5,c5,d4,c9,b8,b5⟩:=h2.row (i:=z.toNat) (by rw[X.l1];exact a9);have a4:b2=inE xb:=b4;subst a4;obtain⟨_,_,_,_,a5,_⟩:=E1 b5;have a2:=b7 0 oM;have a3:=b8 1 oM;rw[a5]at a3;rw[Nat.add_zero]at a2;obtain⟨w1,w2,w3⟩:=X.at_ z.toNat xp xb a8 a7;have g0:=w3.sa;have g1:=w3.st;have f2:=X.nle;have eb:s.base.getD z.toNat 0=xb:=by rw[List.getD_eq_getElem?_getD,a7];rfl
 have ep:(s.progs.getD z.toNat ⟨0,0,0,[],[]⟩).sa=xp.sa:=by rw[List.getD_eq_getElem?_getD,a8];rfl
 rw[eb,ep,iY];obtain⟨S,nv,ov,cv,e2,b3,d1,_,rfl,e6,c6,d5,d0,b9,b6⟩:=hb.row (i:=(xb+xp.sa).toNat) oM;have a6:b3=wB S:=b6;subst a6;have b0:cv[ov+(xb+xp.sa).toNat*1]?=some (.int .u8 (if S=true then 1 else 0)):=by have:=b9 0 oM;rw[Nat.add_zero]at this;exact this
 have b1:bs.getD (xb+xp.sa).toNat false=S:=by rw[List.getD_eq_getElem?_getD,d1];rfl
 rw[b1];have e9:=X.l1;have f0:=X.l2;have e1:(if S=true then(1:Int) else 0)=if S then 1 else 0:=rfl;have db:decide ((if S=true then(1:Int) else 0)=1)=S:=by cases S<;>rfl
 exact J19 a1 W.symm gx g J U u b r1 r2 d2 c4 a2 c5 a3 c6 b0 db @wrap_small trivial
theorem NG(E:d9)(lo K J:Nat)(s:StD)(e:EvD)(bs:List Bool)(F:Nat->Prop)(k:Nat)(el:LV)(x:Q)(z:QR E lo k true el x)(H:d9)(a2:lo<=H.next)(X:∀j,j<lo->H.get j=E.get j) (r:Bool) (y:∀H',i4 H.next H H'->CL prog O8 116 [pT J,.agg el.toArray] H'=some (.bool r,none)):
  CL prog O8 137 [pT J,.agg el.toArray] H=some (.bool (!r),none):=by
 have O:=F0 z;have h:=M8 z;rw[z.len]at h;simp only[qSz,if_true]at h;obtain⟨D,u,-,S,W⟩:=pushF H (bC el 1);have I:H.next<=D.low:=by rw[u,O7];exact lR
 have U:=y D W;rw[j8 WZ rfl _ sM];exact J5 O u.symm S h U trivial
def oz(Hs:d9)(lo K k:Nat):Prop:=∀(H:d9)(pn:Nat)(s:StD)(e:EvD)(bs:List Bool)(F:Nat->Prop)(cs:LV)(q:Q),dK Hs lo K pn s e bs F H->WfS s bs.length->e.attrs.length<=1000000->QR Hs lo k true cs q->
 CL prog O8 116 [pT pn,.agg cs.toArray] H=some (.bool (R7 s e bs q),none)
theorem aB3(Hs:d9)(lo K k:Nat)(hk:k<=K)(ih:oz Hs lo K k):oz Hs lo K (k+1):=by
 intro H pn s e bs F cs q hN hw a5 hr;have z:=F0 hr;have l6:=hr.len;simp only[qSz,if_true]at l6;obtain⟨va,ca,wa,c7,S,h1,h2,h3,h4,_⟩:=hr.filter;have D:cs[0]?=some (.int .i64 q.op):=by rw[S];rfl
 have c3:cs[3]?=some (.string q.vl):=by rw[S];rfl
 have c4:cs[4]?=some (.slice va q.a.length ca):=by rw[S];rfl
 have c5:cs[5]?=some (.slice wa q.b.length c7):=by rw[S];rfl
 have W:ldC (some true) (some 2) 1 cs=some (.agg (nmE (q.sp,q.lc)).toArray):=by rw[S];rfl
 have c6:ldC (some true) (some 2) 1 cs=some (.agg #[.string q.sp,.string q.lc]):=W;obtain⟨U,u,-,E,hS⟩:=pushF H (bC cs 1);have d3:H.next<=U.low:=by rw[u,O7];exact lR
 have d5:=hS.next;have O:=hN.work hS;obtain⟨⟨rs,re,ba,bc,g,hs,⟨av,a6,d4⟩,hb⟩,hF,a2,d0⟩:=id O;obtain⟨pa,pc,ga,gc,xa,xc,ea,ec,ta,tc,a7,_⟩:=N3 hs;obtain⟨a8,I⟩:=eY (rs++(re++[.slice ba bs.length bc]));rw[<-I]at g;have J:a8[8]?=some (.int .i64 e.kind):=by rw[I,a7,a6];rfl
 have d1:a8[12]?=some (.string e.text):=by rw[I,a7,a6];rfl
 have d2:ldC (some true) (some 2) 9 a8=some (.agg #[.string e.space,.string e.loc]):=by rw[I,a7,a6];rfl
 have y:=NF Hs lo K pn s e bs F U O (q.sp,q.lc) a5;have a4:=fun a b=>oG (P:=prog) 4 a b ty4.2.2.2.2.2.2.1;have a3:=kL (α:=Q) U (· <lo) (QR Hs lo k true) (.func (.func 137) #[pT pn] #[]) (fun x=> !R7 s e bs x) (.slice va q.a.length ca) q.a (SlF.mono (SlI.slF h1) (fun j hj=>a2 j hj) (fun _ h=>h) iF) h3 (fun i x el hx hR=>NG Hs lo K pn s e bs F k el x hR ⟨U.bs,U.next⟩ d0 (fun j hj=>a2 j hj) _ (fun H' c9=>ih H' pn s e bs F el x ((O.low U.next).work c9) hw a5 hR));have a9:=kL (α:=Q) U (· <lo) (QR Hs lo k true) (.func (.func 116) #[pT pn] #[]) (R7 s e bs) (.slice va q.a.length ca) q.a (SlF.mono (SlI.slF h1) (fun j hj=>a2 j hj) (fun _ h=>h) iF) h3 (fun i x el hx hR=>ih _ pn s e bs F el x (O.low U.next) hw a5 hR);have b0:=kJ (α:=Q) U (· <lo) (QR Hs lo k false) (.func (.func 138) #[pT pn] #[]) (kU s bs) (.slice wa q.b.length c7) q.b (SlF.mono (SlI.slF h2) (fun j hj=>a2 j hj) (fun _ h=>h) iF) h4 (fun i x el hx hR=>NH Hs lo K pn s e bs F _ (O.low U.next) hw el x (hR.upTo hk));rw[j8 WG rfl _ sM,xz];by_cases e1:q.op=1
 .rw[if_pos e1];exact J7 z u.symm E g J D e1 trivial
 rw[if_neg e1];have b1:decide (q.op=1)=false:=decide_eq_false e1;by_cases e2:q.op=2
 .rw[if_pos e2];exact J7 z u.symm E g J D e2 trivial
 rw[if_neg e2];have b2:decide (q.op=2)=false:=decide_eq_false e2;by_cases e3:q.op=3
 .rw[if_pos e3];exact J7 z u.symm E g J D e3 trivial
 rw[if_neg e3];have b3:decide (q.op=3)=false:=decide_eq_false e3;by_cases e4:q.op=4
 .rw[if_pos e4];rcases d:decide (e.kind=1)with _|_
  .exact J8 z u.symm E g J D e4 d trivial
  .exact J10 z u.symm E g J D e4 d d2 c6 trivial
 rw[if_neg e4];have b4:decide (q.op=4)=false:=decide_eq_false e4;by_cases e5:q.op=5
 .rw[if_pos e5];exact J9 z u.symm E g J D e5 W y trivial
 rw[if_neg e5];have b5:decide (q.op=5)=false:=decide_eq_false e5;by_cases e6:q.op=6
 .rw[if_pos e6];rcases d:(Y1 e.kind (q.sp,q.lc) e.attrs).2 with _|_
  .rw[d]at y;exact J9 z u.symm E g J D e6 W y trivial
  .rw[d]at y;exact J10 z u.symm E g J D e6 W y c3 trivial
 rw[if_neg e6];have b6:decide (q.op=6)=false:=decide_eq_false e6;by_cases e7:q.op=7
 .rw[if_pos e7];rcases d:decide (e.kind=1)with _|_
  .exact J10 z u.symm E g J D e7 d d1 c3 trivial
  .exact J8 z u.symm E g J D e7 d trivial
 rw[if_neg e7];have b7:decide (q.op=7)=false:=decide_eq_false e7;by_cases e8:q.op=8
 .rw[if_pos (.inl e8)];exact J10 z u.symm E g J D e8 c4 a3 a4 trivial
 have b8:decide (q.op=8)=false:=decide_eq_false e8;by_cases e9:q.op=9
 .rw[if_pos (.inr e9)];exact J10 z u.symm E g J D e9 c4 a3 a4 trivial
 rw[if_neg (fun q=>q.elim e8 e9)];have b9:decide (q.op=9)=false:=decide_eq_false e9;by_cases X:q.op=10
 .rw[if_pos X];exact J9 z u.symm E g J D X c4 a9 trivial
 rw[if_neg X];have c8:decide (q.op=10)=false:=decide_eq_false X;exact J18 z u.symm E g J D b1 b2 b3 b4 b5 b6 b7 b8 b9 c8 c5 b0 trivial
theorem xA(h:d9)(lo K:Nat):∀k,k<=K+1->oz h lo K k:=by
 intro k;induction k with
 |zero=>intro _ H D s e bs F cs q _ _ _ u;exact u.elim
 |succ k y=>intro z;exact aB3 h lo K k oM (y oM)
theorem uS(Hs:d9)(lo K pn:Nat)(s:StD)(u:EvD)(bs:List Bool)(F:Nat->Prop)(h:d9)(hN:dK Hs lo K pn s u bs F h)(hw:WfS s bs.length)(a4:u.attrs.length<=1000000)(va:Option Addr)(ca:Nat)(l:List Q)(hv:SlF h F 6 (QR Hs lo K true) (.slice va l.length ca) l)(hn:l.length<=1000000):
  ∀kk e H2,(∃(i:Nat)(w:Value),kk=l.length-i/\i<=l.length/\e.get 9=pT pn/\e.get 10=w/\e.get 19= .slice va l.length ca/\e.get 20=iV l.length/\e.get 21=iV i/\i4 h.next h H2/\t7 H2 h.next 1 (R1 boE) w ((l.take i).map (R7 s u bs)))->
  u9 (LE prog O8 (.loop Gx) e H2) (fun o e H2=>o= .exit 0/\i4 h.next h H2/\∃w,e.get 10=w/\t7 H2 h.next 1 (R1 boE) w (l.map (R7 s u bs))):=by
 refine j7 _ _ ?_;rintro kk e H2 ⟨i,w,hk,hi,f9,f10,f19,f20,f21,O,X⟩;rcases b:decide ((i:Int)<l.length)with _|_
 .have a5:=dF b;have:l.take i=l:=List.take_of_length_le oM;rw[this]at X;refine J3 f20 f21 b ?_;exact l7 ⟨rfl,O,w,f10,X⟩
 have a5:=dT b;have b0:=O.next;obtain⟨x,nb,o,cs,own,el,hx,hd,rfl,S,hg,a9,z,hc,J⟩:=hv.row (i:=i) oM;have nt:(i:Int).toNat=i:=tN i;have g2:=(O.get nb (hN.lt _ S)).trans hg;have a1:=F0 J;have I:=J.len;simp only[qSz,if_true]at I;have D:=M8 J;rw[I]at D;obtain⟨H3,W,n3,g3,s3⟩:=pushP H2 (bC [iV 0,.string eB,.string eB,.string eB,nS,nS] 1) (bC el 1);have a8:splice [iV 0,.string eB,.string eB,.string eB,nS,nS] 0 el=el:=w7 _ _ (by rw[I];rfl);have E:i4 h.next h H3:=O.trans (s3.weaken oM);have a6:=xA Hs lo K K oM H3 pn s u bs F el x (hN.work E) hw a4 J;have a7:(l.take (i+1)).map (R7 s u bs)=(l.take i).map (R7 s u bs)++[R7 s u bs x]:=by rw[List.take_add_one,hx,List.map_append];rfl
 obtain⟨w4,h4,H4,a3,y,a2,U⟩:=(X.keep s3).push1F (P:=prog) (t:=83) (cs:=boE (R7 s u bs x)) (a:=R7 s u bs x) (by exact XY.2.2.2.2.2.2) ty4.1 ty4.2.1 ty4.2.2.1 oM oM rfl rfl (by simp;omega) oM;refine J19 f9 f10 f19 f20 f21 b g2 nt z a1 I a8 W.symm g3 D a6 a3 y @wrap_small ?_;exact i6 (kk-1) oM ⟨i+1,w4,oM,oM,f9,rfl,f19,f20,rfl,E.trans U.stay,by rw[a7];exact a2⟩
theorem XM(Hs:d9)(lo K:Nat)(s:StD)(p:PrD)(ev:EvD)(bs:List Bool)(F:Nat->Prop)(H:d9)(y rp I:LV)(ba:Option Addr)(bc:Nat)(hs:StF H F (QR Hs lo K false) (QR Hs lo K true) y s)(hp:PrF H F (QR Hs lo K true) rp p)(he:EvF H F I ev)(hb:SlF H F 1 (R1 wB) (.slice ba bs.length bc) bs)
  (hF:∀j,F j->j<H.next) (b5:∀j,j<lo->H.get j=Hs.get j) (c7:lo<=H.next) (hw:WfS s bs.length) (b3:ev.attrs.length<=1000000) (hn:p.ts.length<=1000000):
  N5 (CL prog O8 93 [.agg y.toArray,.agg rp.toArray,.agg I.toArray,.slice ba bs.length bc] H) H 1 (R1 boE) (p.ts.map (R7 s ev bs)):=by
 obtain⟨pa,pc,ga,gc,xa,xc,ea,ec,ta,tc,U,_⟩:=N3 hs;obtain⟨c5,c6,a3,a4,b0,c8,b7⟩:=E1 hp;obtain⟨av,S,b4⟩:=id he;obtain⟨c3,c4,rfl⟩:=b4.slice;have a6:y.all oC=true:=by rw[U];rfl
 have ap:rp.all oC=true:=by rw[b0];rfl
 have ae:I.all oC=true:=by rw[S];rfl
 have ls:y.length=8:=by rw[U];rfl
 have le:I.length=5:=by rw[S];rfl
 have b9:ldC (some true) (some 8) 0 y=some (.agg y.toArray):=by rw[U];rfl
 have b8:ldC (some true) (some 5) 0 I=some (.agg I.toArray):=by rw[S];rfl
 have p4:rp[4]?=some (.slice a3 p.ts.length a4):=by rw[b0];rfl
 obtain⟨O,u⟩:=eY (((d9.push ⟨H.bs,H.next⟩ (bC y 1)).push (bC rp 1)).push (bC I 1));have n0:(d9.push ⟨H.bs,H.next⟩ (bC y 1)).next=H.next+1:=by rw[i5];rfl
 have c0:((d9.push ⟨H.bs,H.next⟩ (bC y 1)).push (bC rp 1)).next=H.next+2:=by rw[i5,n0]
 have na:O.next=H.next+3:=by rw[u,i5,c0]
 have sa:i4 H.next H O:=by rw[u];exact((i4.first H _).trans (i4.push oM)).trans (i4.push oM)
 have g1:O.get H.next=cE y 1:=by rw[u,j6 oM,j6 oM];exact i7
 have g2:O.get (H.next+1)=cE rp 1:=by rw[u,j6 oM];exact R2 oM
 have g3:O.get (H.next+2)=cE I 1:=by rw[u];exact R2 oM
 have a8:H.next<=O.low:=by rw[u,O7,O7,O7];exact lR
 obtain⟨a2,E⟩:=eY (y++(I++[.slice ba bs.length bc]));have a5:a2.all oC=true:=by rw[E,List.all_append,List.all_append,a6,ae];rfl
 obtain⟨J,D,-,b2,-⟩:=pushE O (bC a2 1);have n1:J.next=H.next+4:=by rw[D,i5,na]
 have s1:i4 H.next H J:=by rw[D];exact sa.trans (i4.push oM)
 have a1:H.next<=J.low:=by rw[D,O7];exact a8
 have b1:J.get (H.next+1)=cE rp 1:=by rw[D,j6 oM];exact g2
 have hg:∀j,F j->J.get j=H.get j:=fun j hj=>s1.get j (hF j hj);have hN:dK Hs lo K O.next s ev bs F J:=⟨⟨y,I,ba,bc,by rw[<-E];exact b2,hs.mono hg (fun _ h=>h) iF iF,w9 _ _ _ _ _ _ he hg (fun _ h=>h),hb.mono hg (fun _ h=>h) iF⟩,fun j hj=>by have:=hF j hj;omega,fun j hj=>by rw[s1.get j oM];exact b5 j hj,oM⟩
 obtain⟨W,hA⟩:=eY (splice [nS,nS,nS,iV 0,iV 0,iV 0,nS,nS,iV 0,.string eB,.string eB,nS,.string eB,nS] 0 y);obtain⟨X,hB⟩:=eY (splice W 8 I);have lA:W.length=14:=by rw[hA,D9];rfl
 have lB:X.length=14:=by rw[hB,D9];exact lA
 have eC:X.set 13 (.slice ba bs.length bc)=a2:=by rw[hB,hA,E,U,S];rfl
 rw[j8 Xo rfl _ sM];refine J19 a6 ap ae u.symm g1 g3 b9 b8 ls le hA.symm lA hB.symm lB eC a5 D.symm b1 p4 ?_;have a9:SlF J F 6 (QR Hs lo K true) (.slice a3 p.ts.length a4) p.ts:=b7.mono hg (fun _ h=>h) iF;refine l9 (F:=fun z=>N5 (u5 _ _ _ (u7 (inBlock 0 z) _)) _ _ _ _) (uS Hs lo K O.next s ev bs F J hN hw b3 a3 a4 p.ts a9 hn p.ts.length _ _ ⟨0,nS,rfl,oM,rfl,rfl,rfl,rfl,rfl,i4.refl _ _,t7.nil⟩) ?_;rintro o e' H2 ⟨ho,a7,w,f10,hO⟩;refine J2 ho f10 ?_;have b6:=(a7.weaken (show H.next<=J.next from oM)).low a1;exact I4 (hO.weaken oM) (s1.trans (a7.weaken oM)) b6
theorem pi(h:d9)(F:Nat->Prop)(hF:∀j,F j->j<h.next) (Rt:LV->Q->Prop) (X:Option Addr) (U:Nat) (l:List PrD) (hv:SlF h F 5 (PrF h F Rt) (.slice X l.length U) l) (hn:l.length<=100000) (hb:∀p∈l,0<=p.st/\p.st<=1000000) (r:Int):
  ∀O e H2,(∃(i:Nat)(n:Int),O=l.length-i/\i<=l.length/\0<=n/\n<=1000000*i/\e.get 3=iV n/\e.get 7= .slice X l.length U/\e.get 8=iV l.length/\e.get 9=iV i/\i4 h.next h H2/\(l.drop i).foldl (fun n p=>n+p.st) n=r)->
  u9 (LE prog O8 (.loop Gc) e H2) (fun o e H2=>i4 h.next h H2/\o= .exit 0/\e.get 3=iV r):=by
 refine j7 _ _ ?_;rintro O e H2 ⟨i,n,hk,hi,a4,a5,f3,f7,f8,f9,z,y⟩;rcases b:decide ((i:Int)<l.length)with _|_
 .have J:=dF b;have:l.drop i=[]:=dN oM;rw[this,List.foldl_nil]at y;refine J3 f8 f9 b ?_;exact l7 ⟨z,rfl,by rw[<-y];exact f3⟩
 have J:=dT b;have a6:=z.next;obtain⟨x,nb,o,cs,own,el,hx,hd,rfl,D,hg,a3,u,hc,I⟩:=hv.row (i:=i) oM;have nt:(i:Int).toNat=i:=tN i;have a2:=hb x (mG hx);have g2:=(z.get nb (hF _ D)).trans hg;have a1:=fd I;have W:=aV I;have e0:el[0]?=some (.int .i64 x.st):=by obtain⟨_,_,_,_,rfl,_⟩:=E1 I;rfl
 obtain⟨H3,E,n3,g3,s3⟩:=pushP H2 (bC z5 1) (bC el 1);have S:splice z5 0 el=el:=w7 _ _ (by rw[W];rfl);rw[hd,List.foldl_cons]at y;refine J15 f3 f7 f8 f9 b g2 nt u a1 W S E.symm g3 e0 @wrap_small ?_;exact i6 (O-1) oM ⟨i+1,n+x.st,oM,oM,oM,oM,rfl,f7,f8,rfl,z.trans (s3.weaken oM),y⟩
theorem XJ(H:d9)(F:Nat->Prop)(Rp J:LV->Q->Prop)(cs:LV)(s:StD)(W:∀j,F j->j<H.next) (hs:StF H F Rp J cs s) (hn:s.progs.length<=100000) (hb:∀p∈s.progs,0<=p.st/\p.st<=1000000):CL prog O8 71 [.agg cs.toArray] H=some (.int .i64 (y9 s.progs),none):=by
 obtain⟨pa,pc,O,S,ba,bc,ea,ec,ta,tc,y,h1,h2,h3,h4,h5⟩:=N3 hs;have a0:cs.all oC=true:=by rw[y];rfl
 have r1:cs[1]?=some (.slice O s.progs.length S):=by rw[y];rfl
 obtain⟨I,u,-,hg,X⟩:=pushF H (bC cs 1);have E:H.next<=I.low:=by rw[u,O7];exact lR
 have a2:=X.next;have U:SlF I F 5 (PrF I F J) (.slice O s.progs.length S) s.progs:=h2.mono (fun j D=>X.get j (W j D)) (fun _ h=>h) (fun _ _ h=>h.mono (fun j D=>X.get j (W j D)) (fun _ h=>h) iF);rw[j8 ad9 rfl _ sM];refine J4 a0 u.symm hg r1 ?_;refine l9 (F:=fun z=>u5 _ _ _ (u7 (inBlock 0 z) _)=_) (pi I F (fun j D=>by have:=W j D;omega) J O S s.progs U hn hb (y9 s.progs) s.progs.length _ _ ⟨0,0,rfl,oM,oM,oM,rfl,rfl,rfl,rfl,i4.refl _ _,rfl⟩) ?_;rintro o e' H' ⟨a1,ho,h3⟩;have a3:=(a1.weaken a2).low E;exact J2 ho h3 trivial
abbrev SoD:Type:=Bool×Bool×ByteArray
def vz(x:SoD)(n:Int):Bool:=x.1&&decide (x9 x.2.2 n.toNat=1)
def fm(x:SoD)(n:Nat):Prop:=x.1=true->x.2.2.size=n
theorem BV(H:d9)(x:SoD)(n:Int)(m:Nat)(I:fm x m)(J:0<=n)(O:n<m):CL prog O8 117 [.agg (soE x).toArray,iV n] H=some (.bool (vz x n),none):=by
 obtain⟨h,t,b⟩:=x;obtain⟨D,u,-,y,-⟩:=pushF H (bC [.bool h,.bool t,.string b] 1);have z:H.next<=D.low:=by rw[u,O7];exact lR
 rw[j8 WH rfl _ sM,vz];cases h with
 |false=>simp(maxSteps:=20000000) -dsimp (disch:=first|omega|(simp only[rH]<;>omega)|fail) only[↓ai3,rQ,D8,sevalprocAttr,tyA,<-u,y]
 |true=>
  have E:b.size=m:=I rfl;exact J2 u.symm y trivial
abbrev EdD:Type:=Int×Int×Int×Int
def Bh(fi ne:SoD)(hs bs:List Bool)(b:Int)(x:EdD):Bool:=if x.2.2.1=1 then vz fi (b+x.2.1) else if x.2.2.1=2 then vz ne (b+x.2.1) else if x.2.2.1=3 then hs.getD x.2.2.2.toNat false&&iY bs (b+x.2.1) else iY bs (b+x.2.1)
def aL(fi ne:SoD)(hs:List Bool)(b:Int):List EdD->List Bool×Bool->List Bool×Bool
 |[],z=>z
 |x::l,z=>aL fi ne hs b l (if !iY z.1 (b+x.1)&&Bh fi ne hs z.1 b x then(z.1.set (b+x.1).toNat true,true) else z)
def itE(fi ne:SoD)(hs:List Bool)(b:Int)(l:List EdD):Nat->List Bool->List Bool
 |0,bs=>bs
 |n+1,bs=>if(aL fi ne hs b l (bs,false)).2 then itE fi ne hs b l n (aL fi ne hs b l (bs,false)).1 else(aL fi ne hs b l (bs,false)).1
def fD(bs:List Bool):Nat:=(bs.filter (fun b=> !b)).length
theorem qm:∀(bs:List Bool)(i:Nat),i<bs.length->bs.getD i false=false->fD (bs.set i true)+1=fD bs
 |[],i,h,_=>by simp at h
 |b::bs,0,_,h=>by
  have:b=false:=by simpa using h
  subst this;simp [fD]
 |b::bs,i+1,h,h2=>by
  have:=qm bs i (by simpa using h) (by simpa using h2);cases b<;>simp [fD]at this ⊢ <;>omega
theorem cI(fi ne:SoD)(hs:List Bool)(b:Int):∀(l:List EdD)(z:List Bool×Bool),(aL fi ne hs b l z).1.length=z.1.length
 |[],z=>rfl
 |x::l,z=>by
  rw[aL,cI fi ne hs b l];split
  .simp
  .rfl
theorem fc(fi ne:SoD)(hs:List Bool)(b:Int):∀(l:List EdD)(z:List Bool×Bool),(∀x∈l,0<=b+x.1/\b+x.1<z.1.length)->fD (aL fi ne hs b l z).1<=fD z.1/\((aL fi ne hs b l z).2=true->z.2=true\/fD (aL fi ne hs b l z).1<fD z.1)
 |[],z,_=>⟨lR,fun h=> .inl h⟩
 |x::l,z,h=>by
  rw[aL];have I:=h x sM;rcases D:(!iY z.1 (b+x.1)&&Bh fi ne hs z.1 b x)with _|_
  .simp only[bF];exact fc fi ne hs b l z fun y u=>h y (by simp [u])
  .simp only[if_true];simp only[Bool.and_eq_true,Bool.not_eq_true']at D;have E:=qm z.1 (b+x.1).toNat oM D.1;have:=fc fi ne hs b l (z.1.set (b+x.1).toNat true,true) fun y u=>by have:=h y (by simp [u]);simp;omega
   refine⟨by have:=this.1;simp only at this;omega,fun _=> .inr (by have:=this.1;simp only at this;omega)⟩
theorem ph(fi ne:SoD)(hs:List Bool)(b:Int)(l:List EdD):∀(n:Nat)(bs:List Bool),(itE fi ne hs b l n bs).length=bs.length
 |0,bs=>rfl
 |n+1,bs=>by
  rw[itE];split
  .rw[ph fi ne hs b l n,cI]
  .rw[cI]
def gV(s:StD)(e:EvD)(fi ne:SoD)(p:PrD)(b:Int)(bs:List Bool):List Bool:=
 itE fi ne (p.ts.map (R7 s e bs)) b p.ed (fD (bs.set (b+p.en).toNat true)+1) (bs.set (b+p.en).toNat true)
def cn(s:StD)(e:EvD)(fi ne:SoD):List (PrD×Int)->List Bool->List Bool
 |[],bs=>bs
 |x::l,bs=>cn s e fi ne l (gV s e fi ne x.1 x.2 bs)
def rU(bs:List Bool):ByteArray:=⟨(bs.map fun b=>if b then(1:UInt8) else 0).toArray⟩
def Y8(s:StD)(e:EvD)(fi ne:SoD):SoD:=(true,decide (e.kind=2),rU (cn s e fi ne (s.progs.zip s.base) (List.replicate (y9 s.progs).toNat false)))
structure N6(Hs:d9)(lo K pm pb:Nat)(s:StD)(e:EvD)(fi ne:SoD)(bs:List Bool)(F:Nat->Prop)(H:d9):Prop where
 ex:∃rs re bc,H.get pm=some (.cells (rs++(re++(soE fi++(soE ne++[.slice (some ⟨pb,0,none⟩) bs.length bc])))) true 1)/\StF H F (QR Hs lo K false) (QR Hs lo K true) rs s/\EvF H F re e
 bits:H.get pb=cE (bs.map az9) 1
 lt:∀j,F j->j<H.next/\j≠pb
 eq:∀j,j<lo->H.get j=Hs.get j
 lo:lo<=pb
 ne:pm≠pb
section
variable{Hs:d9}{lo K pm pb:Nat}{s:StD}{e:EvD}{fi ne:SoD}{bs:List Bool}{F:Nat->Prop}{H H':d9}
theorem N6.pbl(h:N6 Hs lo K pm pb s e fi ne bs F H):pb<H.next:=u6 h.bits
theorem N6.work(h:N6 Hs lo K pm pb s e fi ne bs F H)(u:i4 H.next H H'):N6 Hs lo K pm pb s e fi ne bs F H':=by
 have z:=h.pbl;obtain⟨⟨rs,re,J,D,O,S⟩,U,E,W,X,h8⟩:=h;have hn:=u.next;have I:∀j,F j->H'.get j=H.get j:=fun j y=>u.get j (E j y).1;exact⟨⟨rs,re,J,(u.get pm (u6 D)).trans D,O.mono I (fun _ h=>h) iF iF,w9 _ _ _ _ _ _ S I (fun _ h=>h)⟩,(u.get pb z).trans U,fun j y=>by have:=E j y;omega,fun j y=>by rw[u.get j oM];exact W j y,X,h8⟩
theorem N6.set(h:N6 Hs lo K pm pb s e fi ne bs F H)(i:Nat):N6 Hs lo K pm pb s e fi ne (bs.set i true) F (H.put pb (.cells ((bs.map az9).set i (az9 true)) true 1)):=by
 have z:=h.pbl;obtain⟨⟨rs,X,I,J,O,S⟩,h4,y,U,W,D⟩:=h;have E:∀j,F j->(H.put pb (.cells ((bs.map az9).set i (az9 true)) true 1)).get j=H.get j:=fun j u=>i9 (fun q=>(y j u).2 q.symm);refine⟨⟨rs,X,I,by rw[i9 (fun q=>D q.symm),List.length_set];exact J,O.mono E (fun _ h=>h) iF iF,w9 _ _ _ _ _ _ S E (fun _ h=>h)⟩,by rw[i8 z,List.map_set],fun j u=>⟨by rw[j5];exact(y j u).1,(y j u).2⟩,fun j u=>by rw[i9 oM];exact U j u,W,D⟩
theorem N6.row(h:N6 Hs lo K pm pb s e fi ne bs F H):∃D E I u,H.get pm=cE u 1/\u=D++(E++(soE fi++(soE ne++[sL pb bs.length I])))/\u.length=20/\StF H F (QR Hs lo K false) (QR Hs lo K true) D s/\EvF H F E e/\
  ldC (some true) (some 8) 0 u=some (.agg D.toArray)/\ldC (some true) (some 5) 8 u=some (.agg E.toArray)/\ldC (some true) (some 3) 13 u=some (.agg (soE fi).toArray)/\ldC (some true) (some 3) 16 u=some (.agg (soE ne).toArray)/\u[19]?=some (sL pb bs.length I)/\
  (∀k,k<8->u[k]?=D[k]?)/\u[8]?=some (.int .i64 e.kind):=by
 obtain⟨⟨D,E,I,S,J,O⟩,_⟩:=h;obtain⟨pa,pc,ga,gc,xa,xc,X,ec,ta,tc,y,_⟩:=N3 J;obtain⟨W,z,_⟩:=id O;have U:D.length=8:=by rw[y];rfl
 refine⟨D,E,I,_,S,rfl,by rw[y,z];rfl,J,O,by rw[y,z];rfl,by rw[y,z];rfl,by rw[y,z];rfl,by rw[y,z];rfl,by rw[y,z];rfl,fun k hk=>List.getElem?_append_left oM,by rw[y,z];rfl⟩
theorem vk{i:Nat}(h:i<bs.length):(bs.map az9)[i*1]?=some (.int .u8 (if bs.getD i false=true then 1 else 0)):=by
 rw[Nat.mul_one,List.getElem?_map,List.getElem?_eq_getElem h,List.getD_eq_getElem?_getD,List.getElem?_eq_getElem h];rfl
end
theorem Og(b:Bool):decide ((if b=true then(1:Int) else 0)=1)=b:=by cases b<;>rfl
theorem XN(Hs:d9)(lo K pm pb:Nat)(s:StD)(e:EvD)(fi ne:SoD)(bs:List Bool)(F:Nat->Prop)(H:d9)(hK:N6 Hs lo K pm pb s e fi ne bs F H)(h1:fm fi bs.length)(h2:fm ne bs.length)(b9:bs.length<=1000000)(b:Int)(x:EdD)(ha:Option Addr)(hc:Nat)(hs:List Bool)(F2:Nat->Prop)(a3:∀j,F2 j->j<H.next) (hh:SlF H F2 1 (R1 boE) (.slice ha hs.length hc) hs)
  (hb:0<=b/\b<=1000000) (hx:0<=x.2.1/\b+x.2.1<bs.length) (h3:x.2.2.1=3->0<=x.2.2.2/\x.2.2.2<hs.length):
  CL prog O8 94 [pT pm,iV b,.agg (edE x).toArray,.slice ha hs.length hc] H=some (.bool (Bh fi ne hs bs b x),none):=by
 obtain⟨x0,x1,E,x3⟩:=x;simp only at hx h3;obtain⟨S,D⟩:=eY (edE (x0,x1,E,x3));rw[<-D];have J:S.all oC=true:=by rw[D];rfl
 have y:S[1]?=some (.int .i64 x1):=by rw[D];rfl
 have z:S[2]?=some (.int .i64 E):=by rw[D];rfl
 have U:S[3]?=some (.int .i64 x3):=by rw[D];rfl
 obtain⟨H1,u,-,X,hS⟩:=pushF H (bC S 1);have b5:H.next<=H1.low:=by rw[u,O7];exact lR
 have W:=hK.work hS;obtain⟨rs,re,bc,c4,g,b6,b7,c3,_,_,_,b0,b4,a2,_,_⟩:=W.row;have gb:=W.bits;have bg:=vk (bs:=bs) (i:=(b+x1).toNat) oM;have g1:=BV H1 fi (b+x1) bs.length h1 oM oM;have g2:=BV H1 ne (b+x1) bs.length h2 oM oM;have bl:(bs.map az9).length=bs.length:=sM;rw[j8 af5 rfl _ sM,Bh];simp only;by_cases e1:E=1
 .rw[if_pos e1];exact J10 J y z u.symm X e1 g b0 g1 @wrap_small trivial
 rw[if_neg e1];have b1:decide (E=1)=false:=decide_eq_false e1;by_cases e2:E=2
 .rw[if_pos e2];exact J10 J y z u.symm X e2 g b4 g2 @wrap_small trivial
 rw[if_neg e2];have b2:decide (E=2)=false:=decide_eq_false e2;by_cases I:E=3
 .rw[if_pos I];obtain⟨t1,t2⟩:=h3 I;have a7:SlF H1 F2 1 (R1 boE) (.slice ha hs.length hc) hs:=hh.mono (fun j hj=>hS.get j (a3 j hj)) (fun _ h=>h) iF;obtain⟨v,nb,o,cs,own,el,a9,_,rfl,b8,a1,c0,a8,a5,a4⟩:=a7.row (i:=x3.toNat) oM;have a6:el=boE v:=a4;subst a6;have O:cs[o+x3.toNat*1]?=some (.bool v):=by have:=a5 0 oM;rw[Nat.add_zero]at this;exact this
  have ev:hs.getD x3.toNat false=v:=by rw[List.getD_eq_getElem?_getD,a9];rfl
  rw[ev,iY];cases v with
  |false=>simp(maxSteps:=20000000) -dsimp (disch:=first|omega|(simp only[rH]<;>omega)|fail) only[↓ai3,rQ,D8,sevalprocAttr,tyA,J,y,z,U,<-u,X,I,a1,O,wrap_small]
  |true=>
   exact J15 J y z U u.symm X I a1 O g a2 gb bg @Og @wrap_small trivial
 rw[if_neg I];have b3:decide (E=3)=false:=decide_eq_false I;rw[iY];exact J14 J y z u.symm X b1 b2 b3 g a2 gb bg @Og @wrap_small trivial
theorem bW(x:Operand):isCall (.nilCheck x)=false:=rT
theorem Bb(fi ne:SoD)(hs:List Bool)(b:Int)(l:List EdD):∀(n m:Nat)(bs:List Bool),(∀x∈l,0<=b+x.1/\b+x.1<bs.length)->fD bs+1<=n->n<=m->itE fi ne hs b l m bs=itE fi ne hs b l n bs:=by
 intro n;induction n with
 |zero=>intro m bs _ h;omega
 |succ n J=>
  intro m bs y O S;obtain⟨u,rfl⟩:∃u,m=u+1:=⟨m-1,oM⟩
  have D:=fc fi ne hs b l (bs,false) y;rw[itE,itE];rcases E:(aL fi ne hs b l (bs,false)).2 with _|_
  .rfl
  .simp only[if_true];have z:=D.2 E;simp only[Bool.false_eq_true,false_or]at z;exact J u _ (fun x I=>by rw[cI];exact y x I) oM oM
structure Fr1(pb:Nat)(H H':d9):Prop where
 stay:i4 pb H H'
 but:∀j,j<H.next->j≠pb->H'.get j=H.get j
 low:H'.low<=H.low
theorem Fr1.refl(h:Nat)(H:d9):Fr1 h H H:=⟨i4.refl _ _,fun _ _ _=>rfl,lR⟩
theorem Fr1.trans{u:Nat}{A B C:d9}(h:Fr1 u A B)(k:Fr1 u B C):Fr1 u A C:=⟨h.stay.trans k.stay,fun j z y=>by rw[k.but j (oN (h.stay.next)) y,h.but j z y],Nat.le_trans k.low h.low⟩
theorem Fr1.of{u:Nat}{H H':d9}(h:i4 H.next H H')(D:u<=H.next)(z:H'.low<=H.low):Fr1 u H H':=⟨h.weaken D,fun j y _=>h.get j y,z⟩
theorem Fr1.put{h:Nat}{H:d9}{B:Blk}:Fr1 h H (H.put h B):=⟨i4.put lR,fun j _ u=>i9 (fun q=>u q.symm),by rw[A4];omega⟩
theorem yi(Hs:d9)(lo K pm z:Nat)(s:StD)(ev:EvD)(fi ne:SoD)(F:Nat->Prop)(J:d9)(n:Nat)(hn:n<=1000000)(b2:fm fi n)(b5:fm ne n)(b:Int)(hb:0<=b/\b<=1000000)(b7:z<J.next)(pc:Nat)(rp:LV)(c0:J.get pc=cE rp 1)(c7:pc≠z)
  (ha:Option Addr) (hc:Nat) (hs:List Bool) (F2:Nat->Prop) (a2:∀j,F2 j->j<J.next/\j≠z) (hh:SlF J F2 1 (R1 boE) (.slice ha hs.length hc) hs)
  (va:Option Addr) (ca:Nat) (l:List EdD) (hv:SlF J F 4 (R1 edE) (.slice va l.length ca) l) (hF:∀j,F j->j<J.next/\j≠z) (hl:l.length<=1000000) (hw:∀x∈l,0<=x.1/\b+x.1<n/\0<=x.2.1/\b+x.2.1<n/\(x.2.2.1=3->0<=x.2.2.2/\x.2.2.2<hs.length)) (r:List Bool×Bool):
  ∀kk e H2,(∃(j:Nat)(bs:List Bool)(m:Bool),kk=l.length-j/\j<=l.length/\e.get 0=pT pm/\e.get 4=pT pc/\e.get 5=iV b/\e.get 6= .slice ha hs.length hc/\e.get 7= .bool m/\e.get 51= .slice va l.length ca/\e.get 52=iV l.length/\e.get 53=iV j/\bs.length=n/\N6 Hs lo K pm z s ev fi ne bs F H2/\Fr1 z J H2/\aL fi ne hs b (l.drop j) (bs,m)=r)->
  u9 (LE prog O8 (.loop Gd) e H2) (fun o e H2=>o= .exit 2/\e.get 0=pT pm/\e.get 4=pT pc/\e.get 5=iV b/\e.get 6= .slice ha hs.length hc/\e.get 7= .bool r.2/\r.1.length=n/\N6 Hs lo K pm z s ev fi ne r.1 F H2/\Fr1 z J H2):=by
 refine j7 _ _ ?_;rintro kk e H2 ⟨j,bs,m,hk,hj,X,f4,f5,f6,f7,f51,f52,f53,y,hK,U,D⟩;rcases bb:decide ((j:Int)<l.length)with _|_
 .have a9:=dF bb;have:l.drop j=[]:=dN oM;rw[this,aL]at D;refine J3 f52 f53 bb ?_;exact l7 ⟨rfl,X,f4,f5,f6,by rw[<-D];exact f7,by rw[<-D];exact y,by rw[<-D];exact hK,U⟩
 have a9:=dT bb;have c6:=U.stay.next;have b8:=hK.pbl;obtain⟨x,nb,o,cs,own,el,hx,hd,rfl,a6,hg,c4,I,c3,u⟩:=hv.row (i:=j) oM;have u:el=edE x:=u;obtain⟨w1,w2,w3,w4,w5⟩:=hw x (mG hx);have nt:(j:Int).toNat=j:=tN j;have gx:=(U.but nb (hF _ a6).1 (hF _ a6).2).trans hg;have a1:el.all oC=true:=by rw[u];rfl
 have l1:el.length=4:=by rw[u];rfl
 have e0:el[0]?=some (.int .i64 x.1):=by rw[u];rfl
 have a7:ldC (some true) (some 4) 0 el=some (.agg el.toArray):=by rw[u];rfl
 obtain⟨H3,W,n3,g3,s3⟩:=pushP H2 (bC [iV 0,iV 0,iV 0,iV 0] 1) (bC el 1);have a5:splice [iV 0,iV 0,iV 0,iV 0] 0 el=el:=w7 _ _ (by rw[l1];rfl);have K3:=hK.work s3;have O:Fr1 z J H3:=U.trans (Fr1.of s3 oM (by rw[W,A4,O7];omega));obtain⟨rs,re,bc,d1,gp,b6,b9,c8,_,_,_,c9,d0,a4,_,_⟩:=K3.row;have gb:=K3.bits;have bg:=vk (bs:=bs) (i:=(b+x.1).toNat) oM;have bl:(bs.map az9).length=bs.length:=sM;have b3:SlF H3 F2 1 (R1 boE) (.slice ha hs.length hc) hs:=hh.mono (fun j hj=>O.but j (a2 j hj).1 (a2 j hj).2) (fun _ h=>h) iF;have E:=XN Hs lo K pm z s ev fi ne bs F H3 K3 (by rw[y];exact b2) (by rw[y];exact b5) oM b x ha hc hs F2 (fun j hj=>by have:=a2 j hj;omega) b3 hb ⟨w3,oM⟩ w5;rw[<-u]at E;rw[hd,aL]at D;have h0:0<=b+x.1:=oM;have c5:b+x.1<bs.length:=oM;rcases b0:bs.getD (b+x.1).toNat false with _|_
 .have S:iY bs (b+x.1)=false:=b0;rw[b0]at bg;rcases b1:Bh fi ne hs bs b x with _|_
  .rw[b1]at E;simp only[S,b1,Bool.not_false,Bool.true_and,bF]at D;refine J23 X f5 f6 f51 f52 f53 bb gx nt I a1 l1 a5 W.symm g3 e0 gp a4 gb bg a7 E @wrap_small ?_;exact i6 (kk-1) oM ⟨j+1,bs,m,oM,oM,X,f4,f5,f6,f7,f51,f52,rfl,y,K3,O,D⟩
  .rw[b1]at E;simp only[S,b1,Bool.not_false,Bool.and_self,if_true]at D;obtain⟨H4,a3⟩:=eY (H3.put z (.cells ((bs.map az9).set ((b+x.1).toNat*1) (.int .u8 1)) true 1));have K4:N6 Hs lo K pm z s ev fi ne (bs.set (b+x.1).toNat true) F H4:=by rw[a3,Nat.mul_one];exact K3.set (b+x.1).toNat
   have b4:(b+x.1).toNat*1+1<=bs.length:=oM;have a8:Fr1 z J H4:=O.trans (by rw[a3];exact Fr1.put);refine J27 X f5 f6 f51 f52 f53 bb gx nt I a1 l1 a5 W.symm g3 e0 gp a4 gb bg bl a7 E b4 a3.symm @bW @wrap_small ?_;exact i6 (kk-1) oM ⟨j+1,bs.set (b+x.1).toNat true,true,oM,oM,X,f4,f5,f6,rfl,f51,f52,rfl,by simp [y],K4,a8,D⟩
 .have S:iY bs (b+x.1)=true:=b0;rw[b0]at bg;simp only[S,Bool.not_true,Bool.false_and,bF]at D;refine J20 X f5 f51 f52 f53 bb gx nt I a1 l1 a5 W.symm g3 e0 gp a4 gb bg @wrap_small ?_;exact i6 (kk-1) oM ⟨j+1,bs,m,oM,oM,X,f4,f5,f6,f7,f51,f52,rfl,y,K3,O,D⟩
theorem xP(Hs:d9)(lo K pm I:Nat)(s:StD)(ev:EvD)(fi ne:SoD)(F:Nat->Prop)(J:d9)(n:Nat)(hn:n<=1000000)(a4:fm fi n)(a5:fm ne n)(b:Int)(hb:0<=b/\b<=1000000)(a7:I<J.next)(pc:Nat)(rp:LV)(W:J.get pc=cE rp 1)(a1:pc≠I)
  (ha:Option Addr) (hc:Nat) (hs:List Bool) (F2:Nat->Prop) (S:∀j,F2 j->j<J.next/\j≠I) (hh:SlF J F2 1 (R1 boE) (.slice ha hs.length hc) hs)
  (va:Option Addr) (ca:Nat) (l:List EdD) (a6:rp[3]?=some (.slice va l.length ca)) (hv:SlF J F 4 (R1 edE) (.slice va l.length ca) l) (hF:∀j,F j->j<J.next/\j≠I) (hl:l.length<=1000000) (hw:∀x∈l,0<=x.1/\b+x.1<n/\0<=x.2.1/\b+x.2.1<n/\(x.2.2.1=3->0<=x.2.2.2/\x.2.2.2<hs.length)) (r:List Bool):
  ∀kk e H2,(∃(bs:List Bool)(m:Bool),kk=(if m then fD bs+1 else 0)/\e.get 0=pT pm/\e.get 4=pT pc/\e.get 5=iV b/\e.get 6= .slice ha hs.length hc/\e.get 7= .bool m/\bs.length=n/\N6 Hs lo K pm I s ev fi ne bs F H2/\Fr1 I J H2/\(if m then itE fi ne hs b l (fD bs+1) bs else bs)=r)->
  u9 (LE prog O8 (.loop AG) e H2) (fun o e H2=>o= .exit 0/\r.length=n/\N6 Hs lo K pm I s ev fi ne r F H2/\Fr1 I J H2):=by
 refine j7 _ _ ?_;rintro kk e H2 ⟨bs,m,hk,f0,f4,f5,f6,f7,X,hK,u,D⟩;cases m with
 |false=>
  simp only[bF]at D;refine J1 f7 ?_;exact l7 ⟨rfl,by rw[<-D];exact X,by rw[<-D];exact hK,u⟩
 |true=>
  simp only[if_true]at D hk;have a8:=u.stay.next;have a2:=u6 W;have g2:=(u.but pc a2 a1).trans W;refine J4 f4 f7 g2 a6 ?_;refine l9 (F:=fun z=>u9 (inBlock 1 (inBlock 2 z)) _) (yi Hs lo K pm I s ev fi ne F H2 n hn a4 a5 b hb oM pc rp g2 a1 ha hc hs F2 (fun j E=>by have:=S j E;exact⟨oM,this.2⟩) (hh.mono (fun j E=>u.but j (S j E).1 (S j E).2) (fun _ h=>h) iF) va ca l (hv.mono (fun j E=>u.but j (hF j E).1 (hF j E).2) (fun _ h=>h) iF) (fun j E=>by have:=hF j E;exact⟨oM,this.2⟩) hl hw (aL fi ne hs b l (bs,false)) l.length _ _ ⟨0,bs,false,rfl,oM,f0,f4,f5,f6,rfl,rfl,rfl,rfl,X,hK,Fr1.refl _ _,rfl⟩) ?_;rintro o e' H3 ⟨ho,g0,g4,g5,g6,g7,U,K3,F3⟩;have O:∀x∈l,0<=b+x.1/\b+x.1<bs.length:=fun x hx=>oN (hw x hx);have y:=fc fi ne hs b l (bs,false) O;rw[itE]at D;obtain⟨z,hz⟩:=eY (aL fi ne hs b l (bs,false));have a3:z.1.length=bs.length:=by rw[hz,cI]
  rw[<-hz]at g7 U K3 D y;simp only[Bool.false_eq_true,false_or]at y;refine J1 ho ?_;obtain⟨z1,z2⟩:=z;simp only at g7 U K3 D y a3;refine i6 (if z2 then fD z1+1 else 0) ?_ ⟨z1,z2,rfl,g0,g4,g5,g6,g7,U,K3,u.trans F3,?_⟩
  .cases z2 with
   |false=>simp only[bF];omega
   |true=>have:=y.2 rfl;simp only[if_true];omega
  .cases z2 with
   |false=>simpa using D
   |true=>
    simp only[if_true]at D ⊢;rw[<-D];have:=y.2 rfl;exact(Bb fi ne hs b l (fD z1+1) (fD bs) z1 (fun x hx=>by rw[a3];exact O x hx) lR oM).symm
theorem N6.low{u:d9}{lo K z y:Nat}{s:StD}{e:EvD}{fi ne:SoD}{bs:List Bool}{F:Nat->Prop}{H:d9}(h:N6 u lo K z y s e fi ne bs F H)(n:Nat):N6 u lo K z y s e fi ne bs F ⟨H.bs,n⟩:=by
 obtain⟨⟨rs,re,D,E,I,J⟩,O,S,U,W,X⟩:=h;exact⟨⟨rs,re,D,E,I.mono (fun _ _=>rfl) (fun _ h=>h) iF iF,w9 _ _ _ _ _ _ J (fun _ _=>rfl) (fun _ h=>h)⟩,O,S,U,W,X⟩
theorem GP{P:Program}{X:Lib}{f:FuncId}{l:E4}{y:Nat}{I:List ResultVar}(D:fnL P f=some (l,y,I))(z:X f=none)(args:LV)(E:args.length<=y)(H:d9){v:Value}{H':d9}(h:CL P X f args H=some (v,some H')):H'.low<=H.low:=by
 rw[j8 D z args E]at h;unfold u5 at h;split at h
 .cases h
 .obtain⟨J,_,u⟩:=Option.map_eq_some_iff.1 h;unfold D4 at u;split at u
  .simp at u
  .simp only[Prod.mk.injEq,Option.some.injEq]at u;rw[<-u.2];show min H.low _<=H.low;omega
 .cases h
theorem XK(Hs:d9)(lo K W y:Nat)(s:StD)(U:EvD)(fi ne:SoD)(bs:List Bool)(F:Nat->Prop)(H:d9)(hK:N6 Hs lo K W y s U fi ne bs F H)(l3:lo<=H.next)(hw:WfS s bs.length)(h0:fm fi bs.length)(h9:fm ne bs.length)(g5:U.attrs.length<=1000000)(i:Nat)(p:PrD)(b:Int)(hp:s.progs[i]?=some p)(hb:s.base[i]?=some b)(i3:p.ts.length<=1000000)(g9:p.ed.length<=1000000):
  Ret (CL prog O8 72 [pT W,iV i] H) H fun v H'=>v=undef/\N6 Hs lo K W y s U fi ne (gV s U fi ne p b bs) F H'/\Fr1 y H H':=by
 have m2:(⟨H.bs,H.next⟩:d9).next=H.next:=rfl;have Kb:N6 Hs lo K W y s U fi ne bs F ⟨H.bs,H.next⟩:=hK.work (i4.start H);obtain⟨w1,w2,w3⟩:=hw.at_ i p b hp hb;have m1:=w3.st;have k7:=w3.en;have i0:=hw.nle;obtain⟨K1,a1,n1,-⟩:=pushF H (bC z5 1);have s1:i4 H.next ⟨H.bs,H.next⟩ K1:=by rw[a1];exact i4.push lR
 obtain⟨rs,re,bc,c3,g,k2,k3,e6,g8,b0,a9,_,_,e8,rk,_⟩:=Kb.row;obtain⟨pa,m3,ga,gc,xa,xc,ea,ec,ta,tc,e4,h1,h2,h3,_⟩:=N3 e6;have e2:=u6 g;have l6:=Kb.pbl;have r1:c3[1]?=some (.slice ga s.progs.length gc):=by rw[rk 1 oM,e4];rfl
 have r2:c3[2]?=some (.slice xa s.base.length xc):=by rw[rk 2 oM,e4];rfl
 have h6:i<s.progs.length:=(gS hp).1;have h5:i<s.base.length:=(gS hb).1;obtain⟨p',np,op,cp,k4,I,j2,_,rfl,g0,b8,k0,a4,k6,a6⟩:=h2.row (i:=i) h6;obtain rfl:p=p':=Option.some.inj (hp.symm.trans j2);obtain⟨b',nx,ox,cx,k5,f1,j1,_,rfl,d6,a7,k1,i2,g7,g4⟩:=h3.row (i:=i) h5;obtain rfl:b=b':=Option.some.inj (hb.symm.trans j1);have d8:f1=inE b:=g4;subst d8;have c7:cx[ox+i*1]?=some (.int .i64 b):=by have:=g7 0 oM;rw[Nat.add_zero]at this;exact this
 have ap:=fd a6;have lp:=aV a6;obtain⟨b2,b3,m4,m5,c0,i1,l8⟩:=E1 a6;have e9:I[2]?=some (.int .i64 p.en):=by rw[c0];rfl
 have j3:I[3]?=some (.slice b2 p.ed.length b3):=by rw[c0];rfl
 have e7:ldC (some true) (some 5) 0 I=some (.agg I.toArray):=by rw[c0];rfl
 obtain⟨X,O⟩:=eY (K1.put H.next (bC I 1));have n2:X.next=H.next+1:=by rw[O,j5,n1]
 have s2:i4 H.next ⟨H.bs,H.next⟩ X:=by rw[O];exact s1.trans (i4.put lR)
 have g1:=(s1.get W e2).trans g;have g2:=(s2.get W e2).trans g;have d1:=(s1.get np (Kb.lt _ g0).1).trans b8;have d2:=(s1.get nx (Kb.lt _ d6).1).trans a7;have d3:=(s2.get nx (Kb.lt _ d6).1).trans a7;have d4:K1.get H.next=cE z5 1:=by rw[a1];exact i7
 have b5:X.get H.next=cE I 1:=by rw[O];exact i8 oM
 have f0:splice z5 0 I=I:=w7 _ _ (by rw[lp];rfl);have nt:(i:Int).toNat=i:=tN i;have l1:(i:Int)<s.progs.length:=oM;have j4:(i:Int)<s.base.length:=oM;have b1:=Kb.work s2;obtain⟨F',b6⟩:=eY (fun j=>F j\/j=y:Nat->Prop);have c4:∀j,F j->F' j:=fun j u=>by rw[b6];exact .inl u
 have b7:∀j,F j->X.get j=(⟨H.bs,H.next⟩:d9).get j:=fun j u=>s2.get j (Kb.lt j u).1;have g6:SlF X F' 1 (R1 wB) (sL y bs.length bc) bs:=by
  refine .inr ⟨y,0,bc,rfl,.inr ⟨_,true,by rw[b6];exact .inr rfl,b1.bits,by simp,fun j v u=>?_⟩⟩;show((bs.map az9).drop (0+j*1)).take 1=wB v;have h8:=(gS u).1;rw[Nat.zero_add,Nat.mul_one,List.drop_eq_getElem_cons (by simpa using h8)];have:=(gS u).2;simp [wB,this]
 obtain⟨wv,d5,H3,a2,E,S,s3⟩:=XM Hs lo K s p U bs F' X rs I re (sP y) bc (e6.mono b7 c4 iF iF) (a6.mono b7 c4 iF) (w9 _ _ _ _ _ _ g8 b7 c4) g6 (fun j u=>by
  rw[b6]at u;rcases u with u|u
  .have:=Kb.lt j u;omega
  .omega) b1.eq oM hw g5 i3
 have n3:=s3.next;have h7:H3.low<=X.low:=by
  rcases d5 with _|Hx
  .have e3:X=H3:=E;rw[e3];exact lR
  .have e3:Hx=H3:=E;rw[<-e3];exact GP Xo rfl _ sM _ a2
 have c6:=b1.work s3;obtain⟨wa,wc,ew⟩:=S.slice;rw[ew]at a2 S;have g3:H3.get W=cE c3 1:=(s3.get W oM).trans g2;have d0:H3.get H.next=cE I 1:=(s3.get _ oM).trans b5;have k8:0<=b+p.en:=oM;have k9:b+p.en<bs.length:=oM;have bl:(bs.map az9).length=bs.length:=sM;have e1:(b+p.en).toNat*1+1<=bs.length:=oM;obtain⟨H4,J⟩:=eY (H3.put y (.cells ((bs.map az9).set ((b+p.en).toNat*1) (.int .u8 1)) true 1));have K4:N6 Hs lo K W y s U fi ne (bs.set (b+p.en).toNat true) F H4:=by rw[J,Nat.mul_one];exact c6.set (b+p.en).toNat
 have n4:H4.next=H3.next:=by rw[J,j5]
 have c9:=c6.bits;have b4:Fr1 y H3 H4:=by rw[J];exact Fr1.put
 have c8:Fr1 y ⟨H.bs,H.next⟩ H4:=((Fr1.of s2 oM (by rw[O,A4,a1,O7];omega)).trans (Fr1.of s3 oM h7)).trans b4;have f2:H4.get H.next=cE I 1:=(b4.but _ oM oM).trans d0;have l4:H4.low<=y:=by rw[J,A4];omega
 obtain⟨D,b9⟩:=eY (p.ts.map (R7 s U bs));have lhs:D.length=p.ts.length:=by rw[b9,List.length_map]
 rw[<-b9]at a2 S;have h4:SlF H4 (fun j=>j9 (.slice wa D.length wc) j) 1 (R1 boE) (.slice wa D.length wc) D:=(S.same fun j u=>by have:=S.lt u;exact b4.but j this.2 oM).frz fun _ h=>h;have j0:SlF H4 F 4 (R1 edE) (.slice b2 p.ed.length b3) p.ed:=i1.mono (fun j u=>c8.but j (Kb.lt j u).1 (Kb.lt j u).2) (fun _ h=>h) iF;rw[j8 ae0 rfl _ sM];have a8:∀(e5:Env),e5.get 0=pT W->e5.get 4=pT H.next->e5.get 5=iV b->e5.get 6= .slice wa D.length wc->e5.get 7= .bool true->
   Ret (u5 prog [] H (inBlock 0 (LE prog O8 AG.loop e5 H4))) H fun v H'=>v=undef/\N6 Hs lo K W y s U fi ne (gV s U fi ne p b bs) F H'/\Fr1 y H H':=by
  intro e5 q0 q4 q5 q6 q7;refine l9 (F:=fun z=>Ret (u5 _ _ _ (inBlock 0 z)) _ _) (xP Hs lo K W y s U fi ne F H4 bs.length i0 h0 h9 b oM oM H.next I f2 oM wa wc D _ (fun j u=>by have:=S.lt u;omega) h4 b2 b3 p.ed j3 j0 (fun j u=>by have:=Kb.lt j u;omega) g9 (fun x hx=>by have:=w3.ed x hx;rw[lhs];omega) (gV s U fi ne p b bs) _ _ _ ⟨bs.set (b+p.en).toNat true,true,rfl,q0,q4,q5,q6,q7,by simp,K4,Fr1.refl _ _,by rw[gV,<-b9];rfl⟩) ?_;rintro o e' H5 ⟨ho,m0,K5,c5⟩;have a5:=c8.trans c5;have l5:H5.low<=y:=Nat.le_trans c5.low l4;refine J1 ho ?_;refine D7 (fun _ hl=>oM) ⟨rfl,?_,?_⟩
  .exact K5.low _
  .exact⟨⟨a5.stay.next,fun k q1 q2=>(by have:=a5.stay.lowAll k q1 (show k<=H.next from oM);show k<=min H.low H5.low;omega),a5.stay.get⟩,a5.but,by show min H.low H5.low<=H.low;omega⟩
 rcases d5 with _|Hx
 .have e3:X=H3:=E;subst e3;have a3:CL prog O8 93 [.agg rs.toArray,.agg I.toArray,.agg re.toArray,sL y bs.length bc] X=some (.slice wa D.length wc,none):=a2;refine J30 g r1 r2 nt b8 a4 a7 c7 a1.symm g1 g2 d1 d2 d4 ap lp f0 O.symm d3 b0 b5 e7 a9 e8 a3 @bW e9 c9 (aI bl e1) (aI J.symm @wrap_small) ?_;exact a8 _ rfl rfl rfl rfl rfl
 .have e3:Hx=H3:=E;subst e3;have a3:CL prog O8 93 [.agg rs.toArray,.agg I.toArray,.agg re.toArray,sL y bs.length bc] X=some (.slice wa D.length wc,some Hx):=a2;refine J30 g r1 r2 nt b8 a4 a7 c7 a1.symm g1 g2 d1 d2 d4 ap lp f0 O.symm d3 b0 b5 e7 a9 e8 a3 @bW (aI g3 d0) (aI e9 c9) (aI bl e1) (aI J.symm @wrap_small) ?_;exact a8 _ rfl rfl rfl rfl rfl
theorem wS(H:d9)(u:Nat)(bs:List Bool)(c:Nat)(y:H.get u=cE (bs.map az9) 1):W8 prog H 81 9 (sL u bs.length c)=some (.string (rU bs),none):=by
 have key:∀l:List Bool,(l.map az9).mapM bB=some (l.map fun b=>if b then(1:UInt8) else 0):=by
  intro l;induction l with
  |nil=>rfl
  |cons b l z=>
   rw[List.map_cons,List.mapM_cons,z];cases b<;>rfl
 have hs:dl H 1 (sL u bs.length c)=some (bs.map az9):=by
  simp only[dl];by_cases h:bs.length=0
  .rw[if_pos h];have:bs=[]:=List.length_eq_zero_iff.1 h;rw[this];rfl
  .rw[if_neg h,y];simp;exact List.take_of_length_le sM
 simp only[W8,yP.2.2.2.2.2.2,ty9.2.2.2.2.2.2,ty5.2.2.2.2.2.2,hs,Option.bind_some,key];rfl
theorem yB(S:d9)(lo K E D:Nat)(s:StD)(u:EvD)(fi ne:SoD)(F:Nat->Prop)(O:d9)(n:Nat)(J:WfS s n)(b0:lo<=O.next)(a3:fm fi n)(a6:fm ne n)(U:u.attrs.length<=1000000)(a7:∀p∈s.progs,p.ts.length<=1000000/\p.ed.length<=1000000) (r:List Bool) (p5 p8:Value):
  ∀kk e H2,(∃(i:Nat)(bs:List Bool),kk=s.progs.length-i/\i<=s.progs.length/\e.get 5=p5/\e.get 8=p8/\e.get 9=pT E/\e.get 22=iV s.progs.length/\e.get 23=iV i/\bs.length=n/\N6 S lo K E D s u fi ne bs F H2/\Fr1 D O H2/\cn s u fi ne ((s.progs.zip s.base).drop i) bs=r)->
  u9 (LE prog O8 (.loop FH) e H2) (fun o e H2=>o= .exit 0/\e.get 5=p5/\e.get 8=p8/\e.get 9=pT E/\r.length=n/\N6 S lo K E D s u fi ne r F H2/\Fr1 D O H2):=by
 refine j7 _ _ ?_;rintro kk e H2 ⟨i,bs,hk,hi,f5,f8,f9,f22,f23,h,hK,y,z⟩;rcases b:decide ((i:Int)<s.progs.length)with _|_
 .have W:=dF b;have:(s.progs.zip s.base).drop i=[]:=dN (by rw[List.length_zip];omega);rw[this,cn]at z;refine J3 f22 f23 b ?_;exact l7 ⟨rfl,f5,f8,f9,by rw[<-z];exact h,by rw[<-z];exact hK,y⟩
 have W:=dT b;have a8:=J.l1;have a9:=J.l2;obtain⟨p,hp,a2⟩:=S4 (l:=s.progs) (i:=i) oM;obtain⟨I,X,a1⟩:=S4 (l:=s.base) (i:=i) oM;have hz:(s.progs.zip s.base).drop i=(p,I)::(s.progs.zip s.base).drop (i+1):=by
  rw[eO,a2,a1,List.zip_cons_cons,eO]
 rw[hz,cn]at z;have b1:=y.stay.next;obtain⟨z1,z2⟩:=a7 p (mG hp);obtain⟨v,h3,H3,hc,a4,rfl,K3,F3⟩:=XK S lo K E D s u fi ne bs F H2 hK oM (by rw[h];exact J) (by rw[h];exact a3) (by rw[h];exact a6) U i p I hp X z1 z2;have a5:(gV s u fi ne p I bs).length=n:=by rw[gV,ph];simp [h]
 have b2:=J.l0;refine J7 f9 f22 f23 b hc a4 @wrap_small ?_;exact i6 (kk-1) oM ⟨i+1,gV s u fi ne p I bs,oM,oM,f5,f8,f9,f22,rfl,a5,K3,y.trans F3,z⟩
abbrev z20:LV:=[nS,nS,nS,iV 0,iV 0,iV 0,nS,nS,iV 0,.string eB,.string eB,nS,.string eB,.bool false,.bool false,.string eB,.bool false,.bool false,.string eB,nS]
theorem nu(Hs:d9)(lo K:Nat)(s:StD)(S:EvD)(fi ne:SoD)(F:Nat->Prop)(H:d9)(D O:LV)(hs:StF H F (QR Hs lo K false) (QR Hs lo K true) D s)(he:EvF H F O S)(hF:∀j,F j->j<H.next) (e2:∀j,j<lo->H.get j=Hs.get j) (h8:lo<=H.next) (n:Nat) (hn:(n:Int)=y9 s.progs) (hw:WfS s n) (e3:fm fi n) (e5:fm ne n)
  (d4:S.attrs.length<=1000000) (a8:∀p∈s.progs,p.ts.length<=1000000/\p.ed.length<=1000000/\0<=p.st/\p.st<=1000000):
  CL prog O8 41 [.agg D.toArray,.agg O.toArray,.agg (soE fi).toArray,.agg (soE ne).toArray] H=some (.agg (soE (Y8 s S fi ne)).toArray,none):=by
 obtain⟨pa,pc,ga,gc,xa,xc,ea,ec,ta,tc,a1,_⟩:=N3 hs;obtain⟨av,W,d5⟩:=id he;obtain⟨h3,h4,rfl⟩:=d5.slice;have b5:D.all oC=true:=by rw[a1];rfl
 have ae:O.all oC=true:=by rw[W];rfl
 have ls:D.length=8:=by rw[a1];rfl
 have le:O.length=5:=by rw[W];rfl
 have g6:ldC (some true) (some 8) 0 D=some (.agg D.toArray):=by rw[a1];rfl
 have e9:ldC (some true) (some 5) 0 O=some (.agg O.toArray):=by rw[W];rfl
 have g9:O[0]?=some (.int .i64 S.kind):=by rw[W];rfl
 have h0:D[1]?=some (.slice ga s.progs.length gc):=by rw[a1];rfl
 have h9:=hw.nle;have h5:=hw.l0;have h6:=hw.l1;obtain⟨f1,f2,f3⟩:=fi;obtain⟨g1,g2,g3⟩:=ne;obtain⟨fe,E⟩:=eY (soE (f1,f2,f3));obtain⟨ge,I⟩:=eY (soE (g1,g2,g3));rw[<-E,<-I];have af:fe.all oC=true:=by rw[E];rfl
 have ag:ge.all oC=true:=by rw[I];rfl
 have lf:fe.length=3:=by rw[E];rfl
 have lg:ge.length=3:=by rw[I];rfl
 have f0:ldC (some true) (some 3) 0 fe=some (.agg fe.toArray):=by rw[E];rfl
 have g0:ldC (some true) (some 3) 0 ge=some (.agg ge.toArray):=by rw[I];rfl
 obtain⟨z3,b2⟩:=eY ([.bool false,.bool false,.string eB]:LV);obtain⟨u,y⟩:=eY (((((d9.push ⟨H.bs,H.next⟩ (bC D 1)).push (bC O 1)).push (bC fe 1)).push (bC ge 1)).push (bC z3 1));have J:(d9.push ⟨H.bs,H.next⟩ (bC D 1)).next=H.next+1:=by rw[i5];rfl
 have n1:u.next=H.next+5:=by rw[y,i5,i5,i5,i5,J]
 have s1:i4 H.next H u:=by rw[y];exact((((i4.first H _).trans (i4.push oM)).trans (i4.push (by rw[i5];omega))).trans (i4.push (by rw[i5,i5];omega))).trans (i4.push (by rw[i5,i5,i5];omega))
 have a5:u.get H.next=cE D 1:=by
  rw[y,j6 (by simp only[i5,J];omega),j6 (by simp only[i5,J];omega),j6 (by simp only[i5,J];omega),j6 oM];exact i7
 have a6:u.get (H.next+1)=cE O 1:=by
  rw[y,j6 (by simp only[i5,J];omega),j6 (by simp only[i5,J];omega),j6 (by simp only[i5,J];omega)];exact R2 oM
 have a9:u.get (H.next+2)=cE fe 1:=by
  rw[y,j6 (by simp only[i5,J];omega),j6 (by simp only[i5,J];omega)];exact R2 (by simp only[i5,J];omega)
 have b0:u.get (H.next+3)=cE ge 1:=by
  rw[y,j6 (by simp only[i5,J];omega)];exact R2 (by simp only[i5,J];omega)
 have b6:u.get (H.next+4)=cE z3 1:=by
  rw[y];exact R2 (by simp only[i5,J];omega)
 have c5:H.next<=u.low:=by rw[y];simp only[O7];exact lR
 have e4:∀j,F j->u.get j=H.get j:=fun j hj=>s1.get j (hF j hj);have c3:=XJ u F _ _ D s (fun j hj=>by have:=hF j hj;omega) (hs.mono e4 (fun _ h=>h) iF iF) oM (fun p hp=>⟨(a8 p hp).2.2.1,(a8 p hp).2.2.2⟩);rw[<-hn]at c3;obtain⟨H2,a7,-,-,a2⟩:=pushE u (.cells ((List.replicate n false).map az9) true 1);have n2:H2.next=H.next+6:=by rw[a7,i5,n1]
 have c6:V3 prog u 81 (.int .i64 n) (.int .i64 n)=some (sL u.next n (n+1),H2):=by
  have e1:(List.replicate n [Value.int .u8 0]).flatten=(List.replicate n false).map az9:=by
   rw[List.flatten_replicate_singleton,List.map_replicate];rfl
  simp only[V3,yP.2.2.2.2.2.1,ty5.2.2.1,ty5.2.1,Int.toNat_natCast,e1];rw[if_pos ⟨by decide,oM,Int.le_refl _,oM,oM⟩,a7];rfl
 have b7:=(a2.get _ oM).trans a5;have b8:=(a2.get _ oM).trans a6;have b9:=(a2.get _ oM).trans a9;have c0:=(a2.get _ oM).trans b0;obtain⟨b3,X⟩:=eY (D++(O++(fe++(ge++[sL u.next n (n+1)]))));obtain⟨rA,hA⟩:=eY (splice z20 0 D);obtain⟨rB,hB⟩:=eY (splice rA 8 O);obtain⟨rC,hC⟩:=eY (splice rB 13 fe);obtain⟨rD,hD⟩:=eY (splice rC 16 ge);have lA:rA.length=20:=by rw[hA,D9];rfl
 have lB:rB.length=20:=by rw[hB,D9];exact lA
 have lC:rC.length=20:=by rw[hC,D9];exact lB
 have lD:rD.length=20:=by rw[hD,D9];exact lC
 have eE:rD.set 19 (sL u.next n (n+1))=b3:=by rw[hD,hC,hB,hA,X,a1,W,E,I];rfl
 have b4:b3.all oC=true:=by rw[X];simp only[List.all_append,b5,ae,af,ag];rfl
 obtain⟨H3,U,-,d3,-⟩:=pushE H2 (bC b3 1);have n3:H3.next=H.next+7:=by rw[U,i5,n2]
 have a3:i4 u.next u H3:=by rw[U];exact a2.trans (i4.push oM)
 have c8:i4 H.next H H3:=s1.trans (a3.weaken oM);have gb:H3.get u.next=some (.cells ((List.replicate n false).map az9) true 1):=by rw[U,j6 oM,a7];exact i7
 have c4:∀j,F j->H3.get j=H.get j:=fun j hj=>c8.get j (hF j hj);have K3:N6 Hs lo K H2.next u.next s S (f1,f2,f3) (g1,g2,g3) (List.replicate n false) F H3:=⟨⟨D,O,n+1,by rw[<-E,<-I,List.length_replicate,<-X];exact d3,hs.mono c4 (fun _ h=>h) iF iF,w9 _ _ _ _ _ _ he c4 (fun _ h=>h)⟩,gb,fun j hj=>by have:=hF j hj;omega,fun j hj=>by rw[c8.get j oM];exact e2 j hj,oM,oM⟩
 have d0:=(a3.get _ oM).trans a5;have e6:(y9 s.progs).toNat=n:=oM;rw[j8 ab8 rfl _ sM,Y8,e6];refine J30 b5 ae af ag ls le lf lg b2.symm y.symm a5 a6 a9 b0 g6 e9 f0 g0 c3 c6 b7 b8 b9 (aI c0 hA.symm) (aI lA hB.symm) (aI lB hC.symm) (aI lC hD.symm) (aI lD eE) (aI b4 U.symm) (aI d0 h0) ?_;refine l9 (F:=fun z=>u5 _ _ _ (u7 (inBlock 0 z) _)=_) (yB Hs lo K H2.next u.next s S (f1,f2,f3) (g1,g2,g3) F H3 n hw oM e3 e5 d4 (fun p hp=>⟨(a8 p hp).1,(a8 p hp).2.1⟩) (cn s S (f1,f2,f3) (g1,g2,g3) (s.progs.zip s.base) (List.replicate n false)) (pT (H.next+1)) (pT (H.next+4)) s.progs.length _ _ ⟨0,List.replicate n false,rfl,oM,rfl,rfl,rfl,rfl,rfl,List.length_replicate ..,K3,Fr1.refl _ _,rfl⟩) ?_;rintro o e' H4 ⟨ho,k5,k8,k9,e7,K4,a4⟩;obtain⟨bz,d6⟩:=eY (cn s S (f1,f2,f3) (g1,g2,g3) (s.progs.zip s.base) (List.replicate n false));rw[<-d6]at e7 K4 ⊢;have n4:=a4.stay.next;obtain⟨i1,i0,c9,h2,g4,e8,g7,_,_,_,_,_,_,c7,_,_⟩:=K4.row;have d8:=wS H4 u.next bz c9 K4.bits;have d1:H4.get (H.next+1)=cE O 1:=(a4.but _ oM oM).trans ((a3.get _ oM).trans a6);have d2:H4.get (H.next+4)=cE z3 1:=(a4.but _ oM oM).trans ((a3.get _ oM).trans b6);have h1:splice z3 0 [.bool true,.bool (decide (S.kind=2)),.string (rU bz)]=[.bool true,.bool (decide (S.kind=2)),.string (rU bz)]:=by rw[b2];rfl
 have g8:z3.length=3:=by rw[b2];rfl
 obtain⟨H5,b1⟩:=eY (H4.put (H.next+4) (bC [.bool true,.bool (decide (S.kind=2)),.string (rU bz)] 1));have g5:H5.get (H.next+4)=cE [.bool true,.bool (decide (S.kind=2)),.string (rU bz)] 1:=by rw[b1];exact i8 oM
 have h7:H.next<=H5.low:=by
  rw[b1,A4];have a:=(a3.weaken (show H.next<=u.next from oM)).low c5;have b:=(a4.stay.weaken (show H.next<=u.next from oM)).low a;omega
 clear a5 a6 a9 b0 b6 b7 b8 b9 c0 hA hB hC hD lA lB lC lD eE c6 y a7 U;exact J15 ho k5 k8 k9 d1 g9 g4 c7 d8 d2 g8 h1 b1.symm g5 @bW trivial
abbrev Fk:ByteArray:=⟨#[48,49,50,51,52,53,54,55,56,57,97,98,99,100,101,102,103,104,105,106,107,108,109,110,111,112,113,114,115,116,117,118,119,120,121,122]⟩
abbrev Fl:ByteArray:=⟨#[48,48,48,49,48,50,48,51,48,52,48,53,48,54,48,55,48,56,48,57,49,48,49,49,49,50,49,51,49,52,49,53,49,54,49,55,49,56,49,57,50,48,50,49,50,50,50,51,50,52,50,53,50,54,50,55,50,56,50,57,51,48,51,49,51,50,51,51,51,52,51,53,51,54,51,55,51,56,51,57,52,48,52,49,52,50,52,51,52,52,52,53,52,54,52,55,52,56,52,57,53,48,53,49,53,50,53,51,53,52,53,53,53,54,53,55,53,56,53,57,54,48,54,49,54,50,54,51,54,52,54,53,54,54,54,55,54,56,54,57,55,48,55,49,55,50,55,51,55,52,55,53,55,54,55,55,55,56,55,57,56,48,56,49,56,50,56,51,56,52,56,53,56,54,56,55,56,56,56,57,57,48,57,49,57,50,57,51,57,52,57,53,57,54,57,55,57,56,57,57]⟩
theorem vU:((List.range 10).all fun n=>decide ((Fk.extract n (n+1)).data.toList=(dg1 n).data.toList))=true/\((List.range 100).all fun n=>decide ((Fl.extract (n*2) (n*2+2)).data.toList=(dg1 (n / 10)).data.toList++(dg1 (n % 10)).data.toList))=true:=⟨kR,kR⟩
theorem oF{a b:ByteArray}(h:a.data.toList=b.data.toList):a=b:=by
 obtain⟨a⟩:=a;obtain⟨b⟩:=b
 congr 1
 exact Array.toList_inj.1 h
theorem Fm(n:Nat)(h:n<10):Fk.extract n (n+1)=dg n:=by
 have:=List.all_eq_true.1 vU.1 n (List.mem_range.2 h);rw[dg,dif_pos h];exact oF (dT this)
theorem Fo(n:Nat)(u:10<=n)(h:n<100):Fl.extract (n*2) (n*2+2)=dg n:=by
 have:=List.all_eq_true.1 vU.2 n (List.mem_range.2 h);rw[dg,dif_neg oM,dg,dif_pos oM,dg,dif_pos oM];refine oF ((dT this).trans ?_);rw[aX]
theorem NI(n:Nat)(h:n<100)(H:d9):CL prog O8 149 [iV n] H=some (.string (dg n),none):=by
 have J:n<10->∀H,Y7 prog H 9 (.string Fk) (some (.int .i64 n)) (some (.int .i64 ((n:Int)+1))) none=some (.string (dg n)):=fun u H=>by
  have p1:(0:Int)<=n:=oM;have p2:(0:Int)<=(n:Int)+1:=oM;have D:((n:Int)+1).toNat=n+1:=oM;have I:n<=n+1/\n+1<=Fk.size:=⟨oM,by show n+1<=36;omega⟩
  simp only[Y7,ty9.2.2.2.2.2.2,bnd,if_pos p1,if_pos p2,Int.toNat_natCast,D,if_pos I,Fm n u]
 have O:10<=n->∀H,Y7 prog H 9 (.string Fl) (some (.int .i64 ((n:Int)*2))) (some (.int .i64 ((n:Int)*2+2))) none=some (.string (dg n)):=fun u H=>by
  have p1:(0:Int)<=(n:Int)*2:=oM;have p2:(0:Int)<=(n:Int)*2+2:=oM;have D:((n:Int)*2).toNat=n*2:=oM;have E:((n:Int)*2+2).toNat=n*2+2:=oM;have I:n*2<=n*2+2/\n*2+2<=Fl.size:=⟨oM,by show n*2+2<=200;omega⟩
  simp only[Y7,ty9.2.2.2.2.2.2,bnd,if_pos p1,if_pos p2,D,E,if_pos I,Fo n u h]
 rw[j8 Xh rfl _ sM];rcases b:decide ((n:Int)<10)with _|_
 .have S:=dF b;have z:=O oM;exact J3 b z @wrap_small trivial
 .have S:=dT b;have y:=J oM;exact J3 b y @wrap_small trivial
theorem XL(n:Nat)(h:n<100)(H:d9):CL prog O8 81 [iV n] H=some (.string (dg n),none):=by
 have z:=fun H=>NI n h H;have y:∀H,CL prog O8 129 [iV n,iV 10] H=some (.string (dg n),none):=fun H=>by
  have D:decide ((0:Int)<=n)=true:=decide_eq_true oM;have E:decide ((n:Int)<100)=true:=decide_eq_true oM;rw[j8 WQ rfl _ sM];exact J3 D E z trivial
 have u:∀H,CL prog O8 103 [iV n] H=some (.string (dg n),none):=fun H=>by
  rw[j8 Wt rfl _ sM];exact J1 y trivial
 rw[j8 ae5 rfl _ sM];exact J1 u trivial
theorem no(l:List ByteArray)(s:ByteArray):(l.any fun y=>ci s y)=V0 l s:=by
 unfold V0;congr 1;funext y;exact decide_eq_decide.2 ⟨Eq.symm,Eq.symm⟩
def frN(l:List ByteArray)(stem:ByteArray):Nat:=aA0 (fun n=>V0 l (stem++dg n)) (l.length+1) 0
theorem AM(l:List ByteArray)(u:ByteArray):V0 l (u++dg (frN l u))=false/\frN l u<l.length+1:=by
 obtain⟨m,z,y⟩:=oW (fun n=>u++dg n) (fun i j h=>oS (oE h)) l (fun n=>V0 l (u++dg n)) (fun i h=>kI h);have:=bT (fun n=>V0 l (u++dg n)) (l.length+1) 0 ⟨m,oM,oM,y⟩;exact⟨this.1,by have:=this.2;rw[frN];omega⟩
def frS(l:List ByteArray)(stem:ByteArray)(ah:List ByteArray):ByteArray:=match ah.find? (fun s=> !V0 l s)with|some s=>s|none=>stem++dg (frN l stem)
theorem qJ(H0:d9)(lo:Nat)(S:lo<=H0.next)(v v1:Value)(l:List ByteArray)(hv:SlI H0 lo 1 (R1 stE) v l)(hn:l.length<=1000)(va:Option Addr)(W:Nat)(h:List ByteArray)(hw:SlI H0 H0.next 1 (R1 stE) (.slice va h.length W) h)(a4:h.length<=1000):
  ∀U e H2,(∃i:Nat,U=h.length-i/\i<=h.length/\e.get 0=v/\e.get 1=v1/\e.get 11= .slice va h.length W/\e.get 12=iV h.length/\e.get 13=iV i/\H2=H0/\(h.drop i).find? (fun s=> !V0 l s)=h.find? (fun s=> !V0 l s))->
  u9 (LE prog O8 (.loop FN) e H2) (fun o e H2=>H2=H0/\e.get 0=v/\e.get 1=v1/\((o= .exit 0/\h.find? (fun s=> !V0 l s)=none)\/(o= .ret/\∃s,h.find? (fun s=> !V0 l s)=some s/\e.get 6= .string s))):=by
 refine j7 _ _ ?_;rintro U e H2 ⟨i,hk,hi,z,J,f11,f12,f13,hH,u⟩;subst hH;rcases b:decide ((i:Int)<h.length)with _|_
 .have O:=dF b;have:h.drop i=[]:=dN oM;rw[this,List.find?_nil]at u;refine J3 f12 f13 b ?_;exact l7 ⟨rfl,z,J,.inl ⟨rfl,u.symm⟩⟩
 have O:=dT b;obtain⟨y,nb,o,cs,own,el,hx,hd,rfl,a3,X,a2,a1,hc,rfl⟩:=hw.row (i:=i) oM;have nt:(i:Int).toNat=i:=tN i;have I:=hc 0 oM;rw[Nat.add_zero]at I;have D:=AV H2 lo v l y S hv oM;rw[no]at D;rw[hd,List.find?_cons]at u;rcases E:V0 l y with _|_
 .simp only[E,Bool.not_false]at u;rw[E]at D;refine J9 z f11 f12 f13 b X nt I D ?_;exact A6 ⟨rfl,z,J,.inr ⟨rfl,y,u.symm,rfl⟩⟩
 .simp only[E,Bool.not_true]at u;rw[E]at D;refine J10 z f11 f12 f13 b X nt I D @wrap_small ?_;exact i6 (U-1) oM ⟨i+1,oM,oM,z,J,f11,f12,rfl,rfl,u⟩
theorem aB1(H0:d9)(lo:Nat)(J:lo<=H0.next)(v:Value)(l:List ByteArray)(h:ByteArray)(hv:SlI H0 lo 1 (R1 stE) v l)(hn:l.length<99)(hs:h.size<=1000):
  ∀O e H2,(∃n:Nat,O=frN l h+1-n/\n<=frN l h/\e.get 0=v/\e.get 1= .string h/\e.get 9=iV n/\H2=H0)->
  u9 (LE prog O8 (.loop FO) e H2) (fun o e H2=>H2=H0/\o= .ret/\e.get 6= .string (h++dg (frN l h))):=by
 refine j7 _ _ ?_;rintro O e H2 ⟨n,hk,hi,D,E,f9,U⟩;subst U;obtain⟨X,a1⟩:=AM l h;have I:=(aY (fun n=>V0 l (h++dg n)) (l.length+1) 0).2;have S:=fun H=>XL n oM H;have W:=jN n;have y:=W7 (P:=prog) 9 h (dg n) oM;have u:=AV H2 lo v l (h++dg n) J hv oM;rw[no]at u;by_cases z:n=frN l h
 .rw[z,X,<-z]at u;refine J6 D E f9 S y u ?_;exact A6 ⟨rfl,rfl,by rw[<-z];rfl⟩
 .have hq:V0 l (h++dg n)=true:=I n oM (by rw[frN]at z hi;omega);rw[hq]at u;refine J7 D E f9 S y u @wrap_small ?_;exact i6 (O-1) oM ⟨n+1,oM,oM,D,E,rfl,rfl⟩
theorem fresh(H:d9)(lo:Nat)(v w:Value)(l:List ByteArray)(h:ByteArray)(u:List ByteArray)(y:lo<=H.next)(S:SlI H lo 1 (R1 stE) v l)(U:SlI H H.next 1 (R1 stE) w u)(hn:l.length<99)(hs:h.size<=1000)(E:u.length<=1000):
  CL prog O8 56 [v,.string h,w] H=some (.string (frS l h u),none):=by
 obtain⟨va,W,rfl⟩:=U.slice;rw[j8 ac4 rfl _ sM];refine J1 aH ?_;refine l9 (F:=fun z=>u5 _ _ _ (u7 (inBlock 0 z) _)=_) (qJ ⟨H.bs,H.next⟩ lo y v (.string h) l (S.mono (fun _ _=>rfl) lR iF) oM va W u (U.mono (fun _ _=>rfl) lR iF) E u.length _ _ ⟨0,rfl,oM,rfl,rfl,rfl,rfl,rfl,rfl,rfl⟩) ?_;rintro o e' H' ⟨rfl,X,g1,⟨I,O⟩|⟨I,s,O,D⟩⟩
 .refine J1 I ?_;refine l9 (F:=fun z=>u5 _ _ _ (inBlock 2 z)=_) (aB1 ⟨H.bs,H.next⟩ lo y v l h (S.mono (fun _ _=>rfl) lR iF) hn hs (frN l h+1) _ _ ⟨0,rfl,oM,X,g1,rfl,rfl⟩) ?_;rintro o e2 H2 ⟨rfl,J,D⟩;simp(maxSteps:=20000000) -dsimp (disch:=first|omega|(simp only[rH]<;>omega)|fail) only[↓ai3,rQ,D8,sevalprocAttr,tyA,J,D,frS,O]
 .simp(maxSteps:=20000000) -dsimp (disch:=first|omega|(simp only[rH]<;>omega)|fail) only[↓ai3,rQ,D8,sevalprocAttr,tyA,I,D,frS,O]
def aU(l:List (ByteArray×ByteArray)):List ByteArray:=(l.filter fun n=>decide (n.1=eB)).map (·.2)
abbrev z0S:ByteArray:=⟨#[122,48]⟩
theorem kH{l:List ByteArray}{s:ByteArray}:V0 l s=true↔s∈l:=⟨kI,fun h=>List.any_eq_true.2 ⟨s,h,decide_eq_true rfl⟩⟩
theorem W9{l:List (ByteArray×ByteArray)}{x:ByteArray×ByteArray}:P0 l x=true↔x∈l:=⟨nj,fun h=>List.any_eq_true.2 ⟨x,h,zo.2 rfl⟩⟩
theorem qY(l:List (ByteArray×ByteArray))(s:ByteArray):s∈aU l↔(eB,s)∈l:=by
 unfold aU;rw[List.mem_map]
 constructor
 .rintro⟨⟨a,b⟩,h,rfl⟩;obtain⟨u,y⟩:=List.mem_filter.1 h;have:a=eB:=dT y;subst this;exact u
 .intro h;exact⟨_,List.mem_filter.2 ⟨h,decide_eq_true rfl⟩,rfl⟩
theorem GM:zS++dg 0=z0S:=by rw[dg,dif_pos oM];decide
theorem ye(l:List (ByteArray×ByteArray)):frS (aU l++[z0S]) zS [zS]=zN (Q4 l):=by
 obtain⟨E,_⟩:=vN l;have u:=(aY (fun n=>P0 l (zNm n)) (l.length+1) 0).2;have e0:P0 l (zNm 0)=V0 (aU l++[z0S]) zS:=by
  rw[Bool.eq_iff_iff,W9,kH,List.mem_append,qY];exact⟨.inl,fun h=>h.resolve_right fun q=>by have:=List.mem_singleton.1 q;revert this;decide⟩
 have en:∀n,0<n->P0 l (zNm n)=V0 (aU l++[z0S]) (zS++dg n):=fun n y=>by
  have J:zNm n=(eB,zS++dg n):=by rw[zNm,zN,if_neg oM]
  rw[Bool.eq_iff_iff,W9,kH,List.mem_append,qY,J];refine⟨.inl,fun h=>h.resolve_right fun q=>?_⟩;have O:=List.mem_singleton.1 q;have S:zS++dg n=zS++dg 0:=O.trans GM.symm;have:=oS (oE S);omega
 rcases b:V0 (aU l++[z0S]) zS with _|_
 .have y:Q4 l=0:=by
   rcases Nat.eq_zero_or_pos (Q4 l)with h|h
   .exact h
   .have:=u 0 oM (by rw[Q4]at h;exact h);rw[e0,b]at this;cases this
  rw[frS,List.find?_cons,b,y];rfl
 .have y:0<Q4 l:=by
   rcases Nat.eq_zero_or_pos (Q4 l)with h|h
   .rw[h,e0,b]at E;cases E
   .exact h
  obtain⟨z,_⟩:=AM (aU l++[z0S]) zS;have D:=(aY (fun n=>V0 (aU l++[z0S]) (zS++dg n)) ((aU l++[z0S]).length+1) 0).2;have I:0<frN (aU l++[z0S]) zS:=by
   rcases Nat.eq_zero_or_pos (frN (aU l++[z0S]) zS)with h|h
   .rw[h]at z;have:V0 (aU l++[z0S]) (zS++dg 0)=true:=kH.2 (List.mem_append.2 (.inr (List.mem_singleton.2 GM)));rw[this]at z;cases z
   .exact h
  have:frN (aU l++[z0S]) zS=Q4 l:=by
   rcases Nat.lt_trichotomy (frN (aU l++[z0S]) zS) (Q4 l)with h|h|h
   .have:=u _ oM (by rw[Q4]at h;exact h);rw[en _ I,z]at this;cases this
   .exact h
   .have:=D _ oM (by rw[frN]at h;exact h);rw[<-en _ y,E]at this;cases this
  rw[frS,List.find?_cons,b];simp only[Bool.not_true,List.find?_nil,this];rw[zN,if_neg oM]
theorem xL(x:ByteArray×ByteArray)(l:List (ByteArray×ByteArray)):aU (x::l)=if decide (x.1=eB)=true then x.2::aU l else aU l:=by
 unfold aU;rw[List.filter_cons];split<;>rfl
theorem Bl(l:List (ByteArray×ByteArray)):(aU l).length<=l.length:=by
 unfold aU;rw[List.length_map];exact List.length_filter_le _ _
theorem BG(X:d9)(lo p2:Nat)(a9:lo<=p2)(b4:p2<X.next)(va:Option Addr)(ca:Nat)(l:List (ByteArray×ByteArray))(hv:SlI X lo 2 (R1 nmE) (.slice va l.length ca) l)(hn:l.length<=1000)(v2:Value)(r:List ByteArray):
  ∀kk e H2,(∃(i:Nat)(h:List ByteArray)(w:Value),kk=l.length-i/\i<=l.length/\h.length<=i/\e.get 2=v2/\e.get 3=w/\e.get 6= .slice va l.length ca/\e.get 7=iV l.length/\e.get 8=iV i/\t7 H2 (p2+1) 1 (R1 stE) w h/\i4 (p2+1) X H2/\h++aU (l.drop i)=r)->
  u9 (LE prog O8 (.loop FP) e H2) (fun o e H2=>o= .exit 0/\e.get 2=v2/\∃w,e.get 3=w/\t7 H2 (p2+1) 1 (R1 stE) w r/\i4 (p2+1) X H2):=by
 refine j7 _ _ ?_;rintro kk e H2 ⟨i,h,w,hk,hi,a7,f2,f3,f6,f7,f8,hO,O,I⟩;have b2:=O.next;rcases J:decide ((i:Int)<l.length)with _|_
 .have a3:=dF J;have:l.drop i=[]:=dN oM;rw[this]at I;refine J3 f7 f8 J ?_;exact l7 ⟨rfl,f2,w,f3,by rw[<-I];simpa [aU] using hO,O⟩
 have a3:=dT J;obtain⟨x,nb,o,cs,own,el,hx,hd,rfl,b0,hg,a8,E,hc,rfl⟩:=hv.row (i:=i) oM;have nt:(i:Int).toNat=i:=tN i;have D:=(O.get nb oM).trans hg;obtain⟨Ha,z,a4,U,-⟩:=pushE H2 (bC [.string eB,.string eB] 1);obtain⟨H3,u⟩:=eY (Ha.put H2.next (bC (nmE x) 1));have b3:H3.next=H2.next+1:=by rw[u,j5,a4]
 have y:i4 H2.next H2 H3:=by rw[u,z];exact(i4.push lR).trans (i4.put lR)
 have S:H3.get H2.next=cE (nmE x) 1:=by rw[u];exact i8 oM
 have a5:H3.get nb=some (.cells cs own 2):=(y.get nb oM).trans D;have a6:Ha.get nb=some (.cells cs own 2):=by rw[z,j6 oM];exact D
 rw[hd,xL]at I;rcases b1:decide (x.1=eB)with _|_
 .rw[b1,if_neg (by decide)]at I;refine J13 f6 f7 f8 J z.symm U D nt E u.symm S b1 @wrap_small ?_;exact i6 (kk-1) oM ⟨i+1,h,w,oM,oM,oM,f2,f3,f6,f7,rfl,hO.keep y,O.trans (y.weaken oM),I⟩
 .rw[b1,if_pos rfl]at I;obtain⟨v',h',H4,ha,W,a1,a2⟩:=(hO.keep y).push1 (P:=prog) (t:=97) (by exact aH.2.2.2.2.2.2) ty9.1 ty9.2.1 ty9.2.2.1 oM oM (cs:=[.string x.2]) (a:=x.2) rfl rfl oM oM;refine J16 f3 f6 f7 f8 J z.symm U D nt E u.symm S b1 ha W @wrap_small ?_;exact i6 (kk-1) oM ⟨i+1,h++[x.2],v',oM,oM,by simp;omega,f2,rfl,f6,f7,rfl,a1,(O.trans (y.weaken oM)).trans a2,by rw[<-I];simp⟩
theorem EN(H:d9)(lo:Nat)(v:Value)(l:List (ByteArray×ByteArray))(a3:lo<=H.next)(hv:SlI H lo 2 (R1 nmE) v l)(hn:l.length<=90):CL prog O8 57 [v] H=some (.agg (nmE (zNm (Q4 l))).toArray,none):=by
 obtain⟨va,ca,rfl⟩:=hv.slice;obtain⟨U,I,-,hg,hS⟩:=pushF H (bC [.string eB,.string eB] 1);have S:H.next<=U.low:=by rw[I,O7];exact lR
 rw[j8 ac5 rfl _ sM];refine J1 I.symm ?_;refine l9 (F:=fun z=>u5 _ _ _ (u7 (inBlock 0 z) _)=_) (BG U lo H.next a3 (u6 hg) va ca l (hv.mono (fun j hj=>hS.get j oM) lR iF) oM _ (aU l) l.length _ _ ⟨0,[],_,rfl,oM,by simp,rfl,rfl,rfl,rfl,rfl,t7.nil,i4.refl _ _,rfl⟩) ?_;rintro o e' H2 ⟨ho,h2,w,h3,hO,u⟩;have a7:=u.next;have a4:=u6 hg;have a5:=Bl l;have a1:=(u.get H.next oM).trans hg;obtain⟨v',h',D,ha,O,W,y⟩:=hO.push1 (P:=prog) (t:=97) (by exact aH.2.2.2.2.2.2) ty9.1 ty9.2.1 ty9.2.2.1 oM oM (cs:=[.string z0S]) (a:=z0S) rfl rfl oM oM;have a8:=y.next;obtain⟨E,J,-,-,h⟩:=pushE D (bC [.string zS] 1);have a9:=h.next;have X:t7 E D.next 1 (R1 stE) (sL D.next 1 1) [zS]:=by rw[J];exact t7.fresh rfl lR (D2.one rfl rfl)
 have hf:=fresh E D.next v' (sL D.next 1 1) (aU l++[z0S]) zS [zS] oM (W.sl.mono (fun j hj=>h.get j hj) lR iF) X.sl (by simp;omega) (by decide) (by decide);rw[ye]at hf;have a2:E.get H.next=_:=(h.get H.next oM).trans ((y.get H.next oM).trans a1);have hz:(⟨#[122]⟩:ByteArray)=zS:=rfl;have b0:ldC (some true) (some 2) 0 (nmE (zNm (Q4 l)))=some (.agg (nmE (zNm (Q4 l))).toArray):=rfl;have a6:H.next<=E.low:=((((u.weaken oM).trans (y.weaken oM)).trans (h.weaken oM)):i4 H.next U E).low S;refine J9 ho h2 h3 ha O hz J.symm hf a2 ?_;rfl
def oO:List (List ByteArray)->Int->Int
 |[],n=>n
 |v::l,n=>oO l (min (n*(v.length+2)) 25)
def kn(s:SpD):Int:=oO s.vals (s.names.length+1)+s.texts.length+1
theorem Eu(a b:Int):(if b<a then b else a)=min a b:=by split<;>omega
theorem zJ(h:d9)(l:List (List ByteArray))(X:Option Addr)(O:Nat)(hv:SlI h h.next 1 (VlF h (· <h.next)) (.slice X l.length O) l)(hn:l.length<=100000)(hl:∀x∈l,x.length<=100000) (W:Value) (r:Int):
  ∀I e H2,(∃(i:Nat)(n:Int),I=l.length-i/\i<=l.length/\0<=n/\n<=1000001/\e.get 1=W/\e.get 3=iV n/\e.get 11= .slice X l.length O/\e.get 12=iV l.length/\e.get 13=iV i/\H2=h/\oO (l.drop i) n=r)->
  u9 (LE prog O8 (.loop FL) e H2) (fun o e H2=>o= .exit 0/\e.get 1=W/\e.get 3=iV r/\H2=h/\0<=r/\r<=1000001):=by
 refine j7 _ _ ?_;rintro I e H2 ⟨i,n,hk,hi,y,z,S,f3,f11,f12,f13,rfl,u⟩;rcases D:decide ((i:Int)<l.length)with _|_
 .have E:=dF D;have:l.drop i=[]:=dN oM;rw[this]at u;refine J3 f12 f13 D ?_;exact l7 ⟨rfl,S,by rw[<-u];exact f3,rfl,by rw[<-u];exact y,by rw[<-u];exact z⟩
 have E:=dT D;obtain⟨x,nb,o,cs,own,el,hx,hd,rfl,a2,hg,a1,U,hc,w,rfl,hw⟩:=hv.row (i:=i) oM;have nt:(i:Int).toNat=i:=tN i;have J:=hc 0 oM;rw[Nat.add_zero]at J;obtain⟨wa,wc,rfl⟩:=hw.slice;have a3:=hl x (mG hx);rw[hd,oO]at u;have p0:0<=n*((x.length:Int)+2):=Int.mul_nonneg y oM;have p1:n*((x.length:Int)+2)<=1000001*((x.length:Int)+2):=Int.mul_le_mul_of_nonneg_right z oM;have hm:∀Hx,D3 prog .min [3,3] [iV (n*((x.length:Int)+2)),iV 25] Hx=some (.int .i64 (min (n*((x.length:Int)+2)) 25),none):=fun Hx=>by
  rw[<-Eu];simp [D3,fN]
 refine J10 f3 f11 f12 f13 D hg nt J hm @wrap_small ?_;exact i6 (I-1) oM ⟨i+1,min (n*((x.length:Int)+2)) 25,oM,oM,oM,oM,S,rfl,f11,f12,rfl,rfl,u⟩
theorem Da(H:d9)(lo:Nat)(cs:LV)(s:SpD)(a5:lo<=H.next)(hs:SpR H lo cs s)(h1:s.names.length<=100000)(h2:s.vals.length<=100000)(h3:∀x∈s.vals,x.length<=100000) (h4:s.texts.length<=100000):CL prog O8 53 [.agg cs.toArray] H=some (.int .i64 (kn s),none):=by
 obtain⟨w1,w2,w3,w4,rfl,q1,q2,U,q4⟩:=hs;obtain⟨W,b1,rfl⟩:=q1.slice;obtain⟨X,b2,rfl⟩:=q2.slice;obtain⟨D,E,rfl⟩:=U.slice;obtain⟨a4,b4,rfl⟩:=q4.slice;obtain⟨y,u,-,O,J⟩:=pushF H (bC [.slice W s.names.length b1,.slice X s.attrs.length b2,.slice D s.vals.length E,.slice a4 s.texts.length b4] 1);have S:H.next<=y.low:=by rw[u,O7];exact lR
 have a6:=J.next;have I:∀j,j<lo->y.get j=H.get j:=fun j hj=>J.get j oM;rw[j8 az6 rfl _ sM];refine J3 u.symm O @wrap_small ?_;refine l9 (F:=fun z=>u5 _ _ _ (u7 (inBlock 0 z) _)=_) (zJ y s.vals D E (U.mono I oM fun _ _ h=>h.mono I (fun _ hj=>oM)) h2 h3 _ (oO s.vals (s.names.length+1)) s.vals.length _ _ ⟨0,s.names.length+1,rfl,oM,oM,oM,rfl,rfl,rfl,rfl,rfl,rfl,rfl⟩) ?_;rintro o e' H2 ⟨ho,g1,g3,rfl,r0,r1⟩;simp(maxSteps:=20000000) -dsimp (disch:=first|omega|(simp only[rH]<;>omega)|fail) only[↓ai3,rQ,D8,sevalprocAttr,tyA,ho,g1,g3,O,wrap_small,kn]
end Go.Proofs.YtofbhlhamfkljaaGreatDoor.Ve
